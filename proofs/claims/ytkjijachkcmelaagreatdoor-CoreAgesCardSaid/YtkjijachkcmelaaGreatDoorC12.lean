/- Part of a proof about the core: of its walks and plain laws. -/
import Derived.Test.YtkjijachkcmelaaGreatDoorC11
set_option linter.all false
section
set_option maxRecDepth 100000
namespace Go.Mp
open Go Go.Vc
def asf (id:Nat):Code ->Option (Array Oper)
 | .region i ops _=>bif Nat.beq i id then some ops else none
 | .seq x y=>match asf id x with
  | some o=>some o
  | none=>asf id y
 | _=>none
def adE:Ann:= {fork:=fun r=> [3].contains r,join:=fun r=>(bif r==4 then some [(9,.ptr),(10,.ptr)] else none)}
noncomputable def aer:Array Oper:=((Go.Proofs.Tryz.f68.body.bind (asf 3)).getD #[])
def alb (c:Option Addr) (target:Int) (groups:Sl) (all:Bool) (K:Value ->World ->Prop) (w:World):Prop:=
 Al (.cells #[(Pv c)] 24) (fun p1 w2=>∃ x3,w2.cell? p1=some (Pv x3)/\NN x3 fun a4=>∃ x5,w2.cell? (a4.add 0)=some (Pv x5)/\
  Calls P aam #[(Pv x5),(Iv target)] w2 fun e7 w6=>∃ x8,e7= .returned (.bool x8)/\bif (!x8) then (K (.bool false) w6) else (∃ J9:Option
  Addr ->Option Addr ->World ->Prop,(Dr (fun w14=>vAny P tau rho pan adE aer (aiw (ai5 [(9,.ptr),(10,.ptr)] J9) (vRet P tau [.tmp 8] K
  (fun _ _=>False))) aer.size (Array.replicate aer.size false) ((((((((((afs [(Pv c),(Iv target),(.slice groups.p groups.n
  groups.c),(.bool all)] 0 .nil).put (some 4) (Pv (some p1))).put (some 8) (.bool false)).put (some 13) (Pv x3)).put (some 14) (Pv (some a4))).put (some 15)
  (Pv (some (a4.add 0)))).put (some 16) (Pv x5)).put (some 17) (Iv target)).put (some 18) (.bool x8)).put (some 19) (.bool (!x8))) w14) w6)/\(∀ _u11:Nat ->
  Value,∀ min12:Option Addr,∀ low13:Option Addr,∀ w10:World,J9 min12 low13 w10 ->∃ x15,w10.cell? p1=some (Pv x15)/\NN x15 fun a16=>∃ x17:
  Option Addr,w10.cell? (a16.add 8)=some (Pv x17)/\Calls P ahc #[(Pv x17),(Sv groups)] w10 fun e19 w18=>∃ x20:Sl,e19
  = .returned (Sv x20)/\Al (.cells #[(.slice none 0 0)] 22) (fun p21 w22=>St p21 (Sv x20) (fun w23=>Calls P aeD #[(.func
  (.func agz) #[] #[(Pv min12),(Pv low13)]),(Pv (some p21)),(Pv (some p1))] w23 fun e25 w24=>∃ x26:Bool,e25= .returned (.bool
  x26)/\bif x26 then (K (.bool true) w24) else (bif all then (Calls P aeD #[(.func (.func agA) #[] #[(Pv min12)]),(Pv (some p21)),
  (Pv (some p1))] w24 fun e28 w27=>∃ x29,e28= .returned (.bool x29)/\K (.bool x29) w27) else (K (.bool false) w24))) w22) w18))) w
theorem asM (c:Option Addr) (target:Int) (groups:Sl) (all:Bool) (K:Value ->World ->Prop) (w:World):vcFn P tau rho pan adE Go.Proofs.Tryz.f68 #[(.pointer c),(.int .i64 target),(.slice groups.p groups.n groups.c),(.bool all)] K (fun _ _=>False) w=alb c target groups all K w:=by kernel_rfl
theorem ar9:okFn P adE Go.Proofs.Tryz.f68 4=true:=by kernel_rfl
theorem arO (c:Option Addr) (target:Int) (groups:Sl) (all:Bool) {K:Value ->World ->Prop} {w:World} (h:alb c target groups all K w):Calls P afk #[(Pv c),(Iv target),(Sv groups),(.bool all)] w (Ret K):=anG mixed Go.Proofs.Tryz.func68 ar9 (by rw [asM];exact h)
end Go.Mp
end
section
namespace Go.Vc
open Go
section
variable {P:Program} {τ:TypeId ->K1} {ρ:TypeId ->Kd} {pan:FuncId ->Bool} {A:Ann}
theorem aCl {f:Nat ->Prop} :∀ {l:List Nat},(∀ i∈l,f i) ->axB f l
 | [],_=>trivial
 | _::_,h=>⟨h _ (List.mem_cons_self ..),aCl (fun i hi=>h i (List.mem_cons_of_mem _ hi))⟩
theorem ajw {ops:Array Oper} {listed:Array Bool} {i:Nat} (h:i∈Region.ready .any ops listed):i<ops.size/\listed.getD i true=false/\
  ∀ o,ops[i]? =some o ->∀ e∈o.after.toList,Region.binds .any e=true ->listed.getD e.on false=true:=by
 unfold Region.ready at h
 rw [List.mem_filter,List.mem_range] at h
 obtain ⟨h1,h2⟩:=h
 simp only [Bool.and_eq_true,Bool.not_eq_true'] at h2
 refine ⟨h1,h2.1,fun o ho e he hb=> ?_⟩
 have h3:=h2.2
 rw [ho] at h3
 simp only [Option.map_some,Option.getD_some] at h3
 rw [<- Array.all_toList] at h3
 have:=List.all_eq_true.1 h3 e he
 rw [hb] at this
 simpa using this
def asR (ops:Array Oper):Bool:=(List.range ops.size).all fun i=>match ops[i]? with
 | some o=>o.after.toList.all fun e=>Nat.blt e.on i
 | none=>true
theorem av6 {ops:Array Oper} {listed:Array Bool} (hb:asR ops=true) (hr:Region.ready .any ops listed= []):∀ i,i<ops.size ->listed.getD i true=true:=by
 intro i
 induction i using Nat.strongRecOn with
 | _ i ih=>
  intro hi
  cases hl:listed.getD i true with
  | true=>rfl
  | false=>
   exfalso
   have ho:ops[i]? =some ops[i]:=Array.getElem?_eq_getElem hi
   have hm:i∈Region.ready .any ops listed:=by
    unfold Region.ready
    rw [List.mem_filter,List.mem_range]
    refine ⟨hi,?_⟩
    rw [hl,ho]
    simp only [Bool.not_false,Bool.true_and,Option.map_some,Option.getD_some]
    rw [<- Array.all_toList,List.all_eq_true]
    intro e he
    have hlt:e.on<i:=by
     unfold asR at hb
     have:=List.all_eq_true.1 hb i (List.mem_range.2 hi)
     rw [ho] at this
     exact Nat.le_of_ble_eq_true (List.all_eq_true.1 this e he)
    have h1:=ih e.on hlt (by omega)
    have h2:listed.getD e.on false=true:=by
     rw [Array.getD_eq_getD_getElem?] at h1 ⊢
     cases h3:listed[e.on]? with
     | some b=>rw [h3] at h1;simpa using h1
     | none=>
      exfalso
      have h4:listed.size<=e.on:=Array.getElem?_eq_none_iff.1 h3
      rw [Array.getD_eq_getD_getElem?,Array.getElem?_eq_none (by omega)] at hl
      cases hl
    rw [h2];simp
   rw [hr] at hm;cases hm
def unlO (n:Nat) (listed:Array Bool):Nat:=((List.range n).filter fun j=> !listed.getD j true).length
theorem filter_lt {p q:Nat ->Bool} :∀ {l:List Nat} {i:Nat},(∀ x,q x=true ->p x=true) ->i∈l ->p i=true ->q i=false ->(l.filter q).length<(l.filter p).length
 | [],_,_,h,_,_=>by cases h
 | x::l,i,hpq,hi,hp,hq=>by
  have hle:∀ l:List Nat,(l.filter q).length<=(l.filter p).length:=by
   intro l
   induction l with
   | nil=>simp
   | cons y l ih=>
    rw [List.filter_cons,List.filter_cons]
    split
    ·next h=>rw [if_pos (hpq _ h)];simpa using ih
    ·split
     ·simp;omega
     ·exact ih
  rw [List.filter_cons,List.filter_cons]
  rcases List.mem_cons.1 hi with rfl | hi
  ·rw [if_neg (by rw [hq];simp),if_pos hp]
   have:=hle l
   simp;omega
  ·have ih:=filter_lt hpq hi hp hq
   split
   ·next h=>rw [if_pos (hpq _ h)];simpa using ih
   ·split
    ·simp;omega
    ·exact ih
theorem aCd {n i:Nat} {listed:Array Bool} (hi:i<n) (hs:listed.size=n) (h:listed.getD i true=false):unlO n (listed.setIfInBounds i true)<unlO n listed:=by
 unfold unlO
 refine filter_lt (p:=fun j=> !listed.getD j true) (q:=fun j=> !(listed.setIfInBounds i true).getD j true) (i:=i) (fun x hx=> ?_) (List.mem_range.2 hi) (by simp only [h];rfl) ?_
 ·by_cases e:x=i
  ·subst e;simp only [h];rfl
  ·have:(listed.setIfInBounds i true).getD x true=listed.getD x true:=by
    rw [Array.getD_eq_getD_getElem?,Array.getD_eq_getD_getElem?,Array.getElem?_setIfInBounds_ne (Ne.symm e)]
   simp only [this] at hx;exact hx
 ·have:(listed.setIfInBounds i true).getD i true=true:=by
   rw [Array.getD_eq_getD_getElem?,Array.getElem?_setIfInBounds_self_of_lt (by omega)];rfl
  simp only [this];rfl
theorem aCi {ops:Array Oper} {Q:Exit ->Tr ->World ->Prop} (J:Array Bool ->Tr ->World ->Prop)
  (step:∀ listed T w i o,listed.size=ops.size ->J listed T w ->i∈Region.ready .any ops listed ->ops[i]? =some o ->∀ next:Tr ->World ->Prop,(∀ T' w',J (listed.setIfInBounds i true) T' w' ->next T' w') ->
   ae0 ops o T (fun T=>vOp P τ ρ pan A o T w next Q) (fun T=>next (T.put o.dst undef) w))
  (fin:∀ listed T w,J listed T w ->Region.ready .any ops listed= [] ->Q .normal T w):
  ∀ (fuel:Nat) (listed:Array Bool) (T:Tr) (w:World),listed.size=ops.size ->unlO ops.size listed<=fuel ->J listed T w ->vAny P τ ρ pan A ops Q fuel listed T w:=by
 intro fuel
 induction fuel with
 | zero=>
  intro listed T w hs hu hJ
  unfold vAny
  split
  ·next e=>exact fin _ _ _ hJ e
  ·next e=>
   cases hr:Region.ready .any ops listed with
   | nil=>exact absurd hr e
   | cons i l=>
    have hm:i∈Region.ready .any ops listed:=by rw [hr];exact List.mem_cons_self ..
    obtain ⟨h1,h2,_⟩:=ajw hm
    have:=aCd h1 hs h2
    omega
 | succ fuel ih=>
  intro listed T w hs hu hJ
  unfold vAny
  split
  ·next e=>exact fin _ _ _ hJ e
  ·next i0 l0 e=>
   refine aCl (fun i hi=> ?_)
   rw [<- e] at hi
   obtain ⟨h1,h2,_⟩:=ajw hi
   have ho:ops[i]? =some ops[i]:=Array.getElem?_eq_getElem h1
   rw [ho]
   have hstep:=aCd h1 hs h2
   exact step listed T w i ops[i] hs hJ hi ho _ (fun T' w' hJ'=>ih _ _ _ (by simpa using hs) (by omega) hJ')
end
end Go.Vc
end
section
namespace Go.Vc
open Go Go.Sp
section
variable {P:Program} {τ:TypeId ->K1} {ρ:TypeId ->Kd} {pan:FuncId ->Bool} {A:Ann}
def dstO (ops:Array Oper) (i:Nat):Nat:=match ops[i]? with | some o=>o.dst.getD 0 | none=>0
def ownB (ops:Array Oper):Bool:=
 asR ops&&((List.range ops.size).all fun i=>match ops[i]? with
  | some o=>o.guard.isNone&&o.dst.isSome&&Nat.blt (o.dst.getD 0) 8000&&(List.range i).all fun j=> !(Nat.beq (dstO ops j) (dstO ops i))
  | none=>false)
theorem ownB_of {ops:Array Oper} (h:ownB ops=true):asR ops=true/\(∀ i o,ops[i]? =some o ->o.guard=none/\o.dst=some (dstO ops i)/\dstO ops i<8000)/\∀ i j,i<ops.size ->j<ops.size ->i≠j ->dstO ops i≠dstO ops j:=by
 unfold ownB at h
 rw [Bool.and_eq_true] at h
 obtain ⟨h1,h2⟩:=h
 have h3:∀ i o,ops[i]? =some o ->o.guard=none/\o.dst=some (dstO ops i)/\dstO ops i<8000/\∀ j,j<i ->dstO ops j≠dstO ops i:=by
  intro i o ho
  have hi:i<ops.size:=(Array.getElem?_eq_some_iff.1 ho).1
  have:=List.all_eq_true.1 h2 i (List.mem_range.2 hi)
  rw [ho] at this
  simp only [Bool.and_eq_true,List.all_eq_true,Bool.not_eq_true'] at this
  obtain ⟨⟨⟨a,b⟩,c⟩,d⟩:=this
  obtain ⟨d',hd'⟩:=Option.isSome_iff_exists.1 b
  have e:dstO ops i=d':=by unfold dstO;rw [ho];simp [hd']
  refine ⟨Option.isNone_iff_eq_none.1 a,by rw [hd',e],?_,fun j hj hh=> ?_⟩
  ·rw [hd'] at c;rw [e];simpa using c
  ·have:=d j (List.mem_range.2 hj)
   rw [hh] at this
   simp at this
 refine ⟨h1,fun i o ho=>let ⟨a,b,c,_⟩:=h3 i o ho;⟨a,b,c⟩,fun i j hi hj hne=> ?_⟩
 rcases Nat.lt_or_gt_of_ne hne with h' | h'
 ·exact (h3 j ops[j] (Array.getElem?_eq_getElem hj)).2.2.2 i h'
 ·exact fun e=>(h3 i ops[i] (Array.getElem?_eq_getElem hi)).2.2.2 j h' e.symm
theorem flatMap_one {α:Type} {f f':Nat ->List α} {i:Nat} {X:List α} :∀ {l:List Nat},l.Nodup ->i∈l ->f i= [] ->f' i=X ->(∀ j∈l,j≠i ->f' j=f j) ->(X++l.flatMap f).Perm (l.flatMap f')
 | [],_,hi,_,_,_=>by cases hi
 | a::l,hnd,hi,h0,hX,hr=>by
  rw [List.flatMap_cons,List.flatMap_cons]
  obtain ⟨hna,hnd'⟩:=List.nodup_cons.1 hnd
  by_cases e:a=i
  ·subst e
   rw [h0,hX,List.nil_append]
   have:l.flatMap f'=l.flatMap f:=by
    have:∀ {m:List Nat},(∀ j∈m,f' j=f j) ->m.flatMap f'=m.flatMap f:=by
     intro m hm
     induction m with
     | nil=>rfl
     | cons b m ih=>rw [List.flatMap_cons,List.flatMap_cons,hm b (List.mem_cons_self ..),ih (fun j hj=>hm j (List.mem_cons_of_mem _ hj))]
    exact this (fun j hj=>hr j (List.mem_cons_of_mem _ hj) (fun e=>hna (e ▸ hj)))
   rw [this]
  ·rw [hr a (List.mem_cons_self ..) e]
   have hi':i∈l:=by
    rcases List.mem_cons.1 hi with h | h
    ·exact absurd h.symm e
    ·exact h
   have ih:=flatMap_one hnd' hi' h0 hX (fun j hj=>hr j (List.mem_cons_of_mem _ hj))
   refine List.Perm.trans ?_ (List.Perm.append_left (f a) ih)
   rw [<- List.append_assoc,<- List.append_assoc]
   exact List.Perm.append_right _ List.perm_append_comm
def pieces (ops:Array Oper) (Ow:Nat ->Tr ->List Asn) (listed:Array Bool) (T:Tr):List Asn:=
 (List.range ops.size).flatMap fun i=>if listed.getD i true=true then Ow i T else []
def waits (ops:Array Oper) (i j:Nat):Prop:=∃ o,ops[i]? =some o/\∃ e∈o.after.toList,Region.binds .any e=true/\e.on=j
theorem aGV {ops:Array Oper} {Q:Exit ->Tr ->World ->Prop} {E:Env} {L:List Asn} (Fx:Tr ->Prop) (F:Nat ->Tr ->Prop) (Ow:Nat ->Tr ->List Asn) (hok:ownB ops=true)
  (hFx:∀ T i v,i<ops.size ->Fx T ->Fx (T.put (some (dstO ops i)) v))
  (hF:∀ i j T v,i<ops.size ->j<ops.size ->i≠j ->¬ waits ops i j ->F i T ->F i (T.put (some (dstO ops j)) v))
  (hOw:∀ i j T v,i<ops.size ->j<ops.size ->i≠j ->¬ waits ops i j ->Ow i (T.put (some (dstO ops j)) v)=Ow i T)
  (step:∀ T w i o R,Fx T ->ops[i]? =some o ->(∀ e∈o.after.toList,Region.binds .any e=true ->F e.on T) ->Sep E (R++L) w ->
   ∀ next:Tr ->World ->Prop,(∀ v w',F i (T.put (some (dstO ops i)) v) ->Sep E (Ow i (T.put (some (dstO ops i)) v)++(R++L)) w' ->next (T.put (some (dstO ops i)) v) w') ->vOp P τ ρ pan A o T w next Q)
  (fin:∀ T w M,Fx T ->(∀ i,i<ops.size ->F i T) ->Sep E (M++L) w ->M.Perm ((List.range ops.size).flatMap fun i=>Ow i T) ->Q .normal T w)
  {T:Tr} {w:World} (h0:Fx T) (hS:Sep E L w):vAny P τ ρ pan A ops Q ops.size (Array.replicate ops.size false) T w:=by
 obtain ⟨hb,ho1,ho2⟩:=ownB_of hok
 have hon:∀ {i:Nat} {o:Oper} {e},i<ops.size ->ops[i]? =some o ->e∈o.after.toList ->e.on<i:=by
  intro i o e hil ho he
  unfold asR at hb
  have:=List.all_eq_true.1 hb i (List.mem_range.2 hil)
  rw [ho] at this
  exact Nat.le_of_ble_eq_true (List.all_eq_true.1 this e he)
 have tf:∀ {listed:Array Bool} {j:Nat},listed.getD j false=true ->listed.getD j true=true:=by
  intro listed j h
  rw [Array.getD_eq_getD_getElem?] at h ⊢
  cases h3:listed[j]? with
  | some b=>rw [h3] at h;simpa using h
  | none=>rfl
 refine aCi (fun listed T w=>listed.size=ops.size/\Fx T/\(∀ i,i<ops.size ->listed.getD i true=true ->F i T)/\(∀ i j,i<ops.size ->listed.getD i true=true ->waits ops i j ->listed.getD j true=true)/\
  ∃ M,Sep E (M++L) w/\M.Perm (pieces ops Ow listed T)) ?_ ?_ ops.size _ T w (by simp) ?_ ?_
 ·rintro listed T w i o hs ⟨_,hx,hFF,hcl,M,hM,hp⟩ hi ho next hn
  obtain ⟨hil,hli,hdep⟩:=ajw hi
  obtain ⟨hg,hd,hd8⟩:=ho1 i o ho
  unfold ae0
  rw [hg]
  dsimp only
  refine step T w i o M hx ho (fun e he hbd=> ?_) hM next (fun v w' hv hS'=> ?_)
  ·have hlt:=hon hil ho he
   exact hFF e.on (by omega) (tf (hdep o ho e he hbd))
  ·have hset:∀ j,j<ops.size ->(listed.setIfInBounds i true).getD j true=if j=i then true else listed.getD j true:=by
    intro j hj
    rw [Array.getD_eq_getD_getElem?,Array.getD_eq_getD_getElem?]
    by_cases e:j=i
    ·subst e;rw [if_pos rfl,Array.getElem?_setIfInBounds_self_of_lt (by omega)];rfl
    ·rw [if_neg e,Array.getElem?_setIfInBounds_ne (Ne.symm e)]
   have hwl:∀ j k,waits ops j k ->k<ops.size:=by
    rintro j k ⟨o',ho',e,he,_,rfl⟩
    have hj:=(Array.getElem?_eq_some_iff.1 ho').1
    have:=hon hj ho' he
    omega
   refine hn _ _ ⟨by simpa using hs,hFx _ _ _ hil hx,fun j hj hl=> ?_,fun j k hj hl hw=> ?_,Ow i (T.put (some (dstO ops i)) v)++M,by rw [List.append_assoc];exact hS',?_⟩
   ·by_cases e:j=i
    ·subst e;exact hv
    ·rw [hset j hj,if_neg e] at hl
     refine hF j i T v hj hil e (fun hw=> ?_) (hFF j hj hl)
     have:=hcl j i hj hl hw
     rw [hli] at this;cases this
   ·have hk:=hwl j k hw
    rw [hset k hk]
    by_cases e:j=i
    ·subst e
     obtain ⟨o',ho',e,he,hbd,rfl⟩:=hw
     rw [ho] at ho'
     cases ho'
     split
     ·rfl
     ·exact tf (hdep o ho e he hbd)
    ·rw [hset j hj,if_neg e] at hl
     split
     ·rfl
     ·exact hcl j k hj hl hw
   ·refine (List.Perm.append_left _ hp).trans ?_
    unfold pieces
    refine flatMap_one List.nodup_range (List.mem_range.2 hil) ?_ ?_ (fun j hj hji=> ?_)
    ·rw [hli];rfl
    ·rw [hset i hil,if_pos rfl,if_pos rfl]
    ·have hj':=List.mem_range.1 hj
     rw [hset j hj',if_neg hji]
     split
     ·next hl=>exact hOw j i T v hj' hil hji (fun hw=>by have:=hcl j i hj' hl hw;rw [hli] at this;cases this)
     ·rfl
 ·rintro listed T w ⟨hs,hx,hFF,_,M,hM,hp⟩ hr
  have hall:=av6 hb hr
  refine fin T w M hx (fun i hi=>hFF i hi (hall i hi)) hM (hp.trans ?_)
  unfold pieces
  have:∀ {m:List Nat},(∀ j∈m,j<ops.size) ->(m.flatMap fun i=>if listed.getD i true=true then Ow i T else [])=m.flatMap fun i=>Ow i T:=by
   intro m hm
   induction m with
   | nil=>rfl
   | cons b m ih=>rw [List.flatMap_cons,List.flatMap_cons,ih (fun j hj=>hm j (List.mem_cons_of_mem _ hj)),if_pos (hall b (hm b (List.mem_cons_self ..)))]
  rw [this (fun j hj=>List.mem_range.1 hj)]
 ·unfold unlO
  exact Nat.le_trans (List.length_filter_le _ _) (by rw [List.length_range];exact Nat.le_refl _)
 ·have no:∀ i,i<ops.size ->(Array.replicate ops.size false).getD i true=false:=by
   intro i hi
   rw [Array.getD_eq_getD_getElem?,Array.getElem?_replicate,if_pos hi];rfl
  refine ⟨by simp,h0,fun i hi hl=> ?_,fun i j hi hl=> ?_,[],hS,?_⟩
  ·rw [no i hi] at hl;cases hl
  ·rw [no i hi] at hl;cases hl
  ·unfold pieces
   have:∀ {m:List Nat},(∀ j∈m,j<ops.size) ->(m.flatMap fun i=>if (Array.replicate ops.size false).getD i true=true then Ow i T else [])= []:=by
    intro m hm
    induction m with
    | nil=>rfl
    | cons b m ih=>
     rw [List.flatMap_cons,ih (fun j hj=>hm j (List.mem_cons_of_mem _ hj)),no b (hm b (List.mem_cons_self ..))]
     rfl
   rw [this (fun j hj=>List.mem_range.1 hj)]
end
end Go.Vc
end
section
set_option maxRecDepth 100000
namespace Go.Mp
open Go Go.Vc Go.Sp Go.Proofs Go.Kc
variable {E:Env} {L:List Asn} {w:World} {A:At} {S:Cs}
noncomputable abbrev opsE:Array Oper:=aer
def aIM:Oper:= {dst:=none,op:= .assign (.const (.pointer none)),type:=0,pos:= "",after:= #[],guard:=none}
noncomputable def opE (i:Nat):Oper:=(opsE[i]?).getD aIM
theorem axs:opsE.size=10:=by kernel_rfl
theorem aHY:asR opsE=true:=by decide+kernel
theorem aHB:((List.range 10).all fun i=>(opE i).guard.isNone)=true:=by decide+kernel
section
variable (T:Tr) (next:Tr ->World ->Prop) (Q:Exit ->Tr ->World ->Prop)
abbrev vopE (i:Nat):=vOp P tau rho pan adE (opE i) T w next Q
theorem opE0:vopE (w:=w) T next Q 0=anp P (tau 24) 24 (T.get 4) w (fun v=>next (T.put (some 20) v) w):=by kernel_rfl
theorem opE1:vopE (w:=w) T next Q 1=next (T.put (some 21) (T.get 1)) w:=by kernel_rfl
theorem opE2:vopE (w:=w) T next Q 2=Calls P acj #[T.get 20,T.get 21,.func (.func afT) #[] #[]] w fun e w'=>∃ x:Sl,e= .returned (.slice x.p x.n x.c)/\next (T.put (some 22) (.slice x.p x.n x.c)) w':=by kernel_rfl
theorem opE3:vopE (w:=w) T next Q 3=anp P (tau 24) 24 (T.get 4) w (fun v=>next (T.put (some 23) v) w):=by kernel_rfl
theorem opE4:vopE (w:=w) T next Q 4=next (T.put (some 24) (T.get 1)) w:=by kernel_rfl
theorem opE5:vopE (w:=w) T next Q 5=Calls P acj #[T.get 23,T.get 24,.func (.func afS) #[] #[]] w fun e w'=>∃ x:Sl,e= .returned (.slice x.p x.n x.c)/\next (T.put (some 25) (.slice x.p x.n x.c)) w':=by kernel_rfl
theorem opE6:vopE (w:=w) T next Q 6=Al (.cells #[.slice none 0 0] 30) (fun q=>next (T.put (some 9) (.pointer (some q)))) w:=by kernel_rfl
theorem opE7:vopE (w:=w) T next Q 7=Al (.cells #[.slice none 0 0] 30) (fun q=>next (T.put (some 10) (.pointer (some q)))) w:=by kernel_rfl
theorem opE8:vopE (w:=w) T next Q 8=aoK P (tau 30) 30 (T.get 9) (T.get 22) w (fun w'=>next T w'):=by kernel_rfl
theorem opE9:vopE (w:=w) T next Q 9=aoK P (tau 30) 30 (T.get 10) (T.get 25) w (fun w'=>next T w'):=by kernel_rfl
end
theorem ldE (a:Addr) (f:Value ->Prop):anp P (tau 24) 24 (.pointer (some a)) w f=∃ x:Option Addr,w.cell? a=some (.pointer x)/\f (.pointer x):=by kernel_rfl
theorem stE (a:Addr) (s:Sl) (f:World ->Prop):aoK P (tau 30) 30 (.pointer (some a)) (.slice s.p s.n s.c) w f=St a (.slice s.p s.n s.c) f w:=by kernel_rfl
noncomputable def aGb (i j:Nat):Bool:=match opsE[i]? with
 | some o=>o.after.toList.any fun e=>Region.binds .any e&&Nat.beq e.on j
 | none=>false
def PA (f:Bool) (v:Value) (l:List Bool):Asn:=bif f then (exA fun s:Sl=>pur (v= .slice s.p s.n s.c/\s.n=l.length) (rowA s 1 (aak l))) else emp
def PB (f g:Bool) (v u:Value):Asn:=bif f then (exA fun p:Nat=>pur (v= .pointer (some ⟨p,0,none⟩)) (blk p [bif g then u else .slice none 0 0])) else emp
structure JE (E:Env) (M:List Asn) (c bx:Nat) (t:Int) (mn lw:List Bool) (b0 b1 b2 b3 b4 b5 b6 b7 b8 b9:Bool) (T:Tr) (w:World):Prop where
 s1:T.get 1= .int .i64 t
 s4:T.get 4= .pointer (some ⟨bx,0,none⟩)
 s20:b0=true ->T.get 20= .pointer (some ⟨c,0,none⟩)
 s21:b1=true ->T.get 21= .int .i64 t
 s23:b3=true ->T.get 23= .pointer (some ⟨c,0,none⟩)
 s24:b4=true ->T.get 24= .int .i64 t
 d8:b8=true ->b2=true/\b6=true
 d9:b9=true ->b5=true/\b7=true
 sep:Sep E (PA b2 (T.get 22) mn::PA b5 (T.get 25) lw::PB b6 b8 (T.get 9) (T.get 22)::PB b7 b9 (T.get 10) (T.get 25)::M) w
theorem aIC {M:List Asn} {c bx:Nat} {t:Int} {mn lw:List Bool} {J:Option Addr ->Option Addr ->World ->Prop} {QR:Exit ->Tr ->World ->Prop} {T:Tr}
  (hld:∀ {R:List Asn} {w:World},Sep E (R++M) w ->w.cell? ⟨bx,0,none⟩=some (.pointer (some ⟨c,0,none⟩)))
  (hmn:∀ {R:List Asn} {w:World},Sep E (R++M) w ->Calls P acj #[.pointer (some ⟨c,0,none⟩),.int .i64 t,.func (.func afT) #[] #[]] w (Ret fun v w'=>∃ e:Sl,v= .slice e.p e.n e.c/\e.n=mn.length/\Sep E (rowA e 1 (aak mn)::(R++M)) w'))
  (hlw:∀ {R:List Asn} {w:World},Sep E (R++M) w ->Calls P acj #[.pointer (some ⟨c,0,none⟩),.int .i64 t,.func (.func afS) #[] #[]] w (Ret fun v w'=>∃ e:Sl,v= .slice e.p e.n e.c/\e.n=lw.length/\Sep E (rowA e 1 (aak lw)::(R++M)) w'))
  (h1:T.get 1= .int .i64 t) (h4:T.get 4= .pointer (some ⟨bx,0,none⟩)) (h:Sep E M w)
  (k:∀ (s1 s2:Sl) (p q:Nat) (w':World),s1.n=mn.length ->s2.n=lw.length ->Sep E (rowA s1 1 (aak mn)::rowA s2 1 (aak lw)::blk p [.slice s1.p s1.n s1.c]::blk q [.slice s2.p s2.n s2.c]::M) w' ->J (some ⟨p,0,none⟩) (some ⟨q,0,none⟩) w'):
  vAny P tau rho pan adE opsE (aiw (ai5 [(9,.ptr),(10,.ptr)] J) QR) opsE.size (Array.replicate opsE.size false) T w:=by
 have hput:∀ (T:Tr) (d s:Nat) (v:Value),d<8000 ->(T.put (some d) v).get s=if s=d then v else T.get s:=fun T d s v hd=>Tr.get_put _ _ _ _ hd
 refine aCi (fun li T w=>li.size=10/\JE E M c bx t mn lw (li.getD 0 true) (li.getD 1 true) (li.getD 2 true) (li.getD 3 true) (li.getD 4 true) (li.getD 5 true) (li.getD 6 true) (li.getD 7 true) (li.getD 8 true) (li.getD 9 true) T w) ?_ ?_ _ _ _ _ (by simp) ?_ ?_
 ·rintro li T w i o hs ⟨hs10,j⟩ hi ho next hn
  obtain ⟨hil,hli,hdep⟩:=ajw hi
  rw [axs] at hil
  have ho':opE i=o:=by unfold opE;rw [ho];rfl
  have hg:o.guard=none:=by
   have:=List.all_eq_true.1 aHB i (List.mem_range.2 hil)
   rw [ho'] at this
   exact Option.isNone_iff_eq_none.1 this
  have tf:∀ {j:Nat},li.getD j false=true ->li.getD j true=true:=by
   intro j h
   rw [Array.getD_eq_getD_getElem?] at h ⊢
   cases h3:li[j]? with
   | some b=>rw [h3] at h;simpa using h
   | none=>rfl
  have hw:∀ j,aGb i j=true ->li.getD j true=true:=by
   intro j hj
   unfold aGb at hj
   rw [ho] at hj
   obtain ⟨e,he,hb⟩:=List.any_eq_true.1 hj
   rw [Bool.and_eq_true] at hb
   have:=hdep o ho e he hb.1
   rw [Nat.eq_of_beq_eq_true hb.2] at this
   exact tf this
  have hset:∀ j,j<10 ->(li.setIfInBounds i true).getD j true=if j=i then true else li.getD j true:=by
   intro j hj
   rw [Array.getD_eq_getD_getElem?,Array.getD_eq_getD_getElem?]
   by_cases e:j=i
   ·subst e;rw [if_pos rfl,Array.getElem?_setIfInBounds_self_of_lt (by omega)];rfl
   ·rw [if_neg e,Array.getElem?_setIfInBounds_ne (Ne.symm e)]
  unfold ae0
  rw [hg]
  dsimp only
  have hn':∀ T' w',JE E M c bx t mn lw (if 0=i then true else li.getD 0 true) (if 1=i then true else li.getD 1 true) (if 2=i then true else li.getD 2 true) (if 3=i then true else li.getD 3 true) (if 4=i then true else li.getD 4 true)
    (if 5=i then true else li.getD 5 true) (if 6=i then true else li.getD 6 true) (if 7=i then true else li.getD 7 true) (if 8=i then true else li.getD 8 true) (if 9=i then true else li.getD 9 true) T' w' ->next T' w':=by
   intro T' w' hj
   refine hn T' w' ⟨by simpa using hs10,?_⟩
   rw [hset 0 (by decide),hset 1 (by decide),hset 2 (by decide),hset 3 (by decide),hset 4 (by decide),hset 5 (by decide),hset 6 (by decide),hset 7 (by decide),hset 8 (by decide),hset 9 (by decide)]
   exact hj
  clear hn hset hdep hi
  subst ho'
  generalize hb0:li.getD 0 true=b0 at*
  generalize hb1:li.getD 1 true=b1 at*
  generalize hb2:li.getD 2 true=b2 at*
  generalize hb3:li.getD 3 true=b3 at*
  generalize hb4:li.getD 4 true=b4 at*
  generalize hb5:li.getD 5 true=b5 at*
  generalize hb6:li.getD 6 true=b6 at*
  generalize hb7:li.getD 7 true=b7 at*
  generalize hb8:li.getD 8 true=b8 at*
  generalize hb9:li.getD 9 true=b9 at*
  obtain ⟨s1,s4,s20,s21,s23,s24,d8,d9,hsep⟩:=j
  match i,hil with
  | 0,_=>
   refine (opE0 T next _).mpr ?_
   rw [s4,ldE]
   refine ⟨_,hld (R:= [_,_,_,_]) hsep,hn' _ _ ?_⟩
   constructor<;>simp only [hput _ _ _ _ (show (20:Nat)<8000 by decide),Nat.reduceEqDiff,eq_self,reduceCtorEq,if_true,if_false]<;>first | assumption | (intro _;rfl) | (intro _;trivial) | skip
  | 1,_=>
   refine (opE1 T next _).mpr ?_
   rw [s1]
   refine hn' _ _ ?_
   constructor<;>simp only [hput _ _ _ _ (show (21:Nat)<8000 by decide),Nat.reduceEqDiff,eq_self,reduceCtorEq,if_true,if_false]<;>first | assumption | (intro _;rfl) | (intro _;trivial) | skip
  | 2,_=>
   refine (opE2 T next _).mpr ?_
   have t0:b0=true:=hb0.symm.trans (hw 0 (by decide+kernel))
   have t1:b1=true:=hb1.symm.trans (hw 1 (by decide+kernel))
   have f2:b2=false:=hb2.symm.trans hli
   rw [s20 t0,s21 t1]
   subst f2
   have f8:b8=false:=by cases b8 with | false=>rfl | true=>exact absurd (d8 rfl).1 (by decide)
   subst f8
   refine use (hmn (R:= [_,_,_,_]) hsep) ?_
   rintro _ w1 ⟨e,rfl,he,h1⟩
   refine ⟨e,rfl,hn' _ _ ?_⟩
   constructor<;>simp only [hput _ _ _ _ (show (22:Nat)<8000 by decide),Nat.reduceEqDiff,eq_self,reduceCtorEq,if_true,if_false]<;>first | assumption | (intro hh;cases hh;done) | skip
   exact Sep.ex.2 ⟨e,Sep.pur.2 ⟨⟨rfl,he⟩,h1.ro 2 [0] rfl⟩⟩
  | 3,_=>
   refine (opE3 T next _).mpr ?_
   rw [s4,ldE]
   refine ⟨_,hld (R:= [_,_,_,_]) hsep,hn' _ _ ?_⟩
   constructor<;>simp only [hput _ _ _ _ (show (23:Nat)<8000 by decide),Nat.reduceEqDiff,eq_self,reduceCtorEq,if_true,if_false]<;>first | assumption | (intro _;rfl) | (intro _;trivial) | skip
  | 4,_=>
   refine (opE4 T next _).mpr ?_
   rw [s1]
   refine hn' _ _ ?_
   constructor<;>simp only [hput _ _ _ _ (show (24:Nat)<8000 by decide),Nat.reduceEqDiff,eq_self,reduceCtorEq,if_true,if_false]<;>first | assumption | (intro _;rfl) | (intro _;trivial) | skip
  | 5,_=>
   refine (opE5 T next _).mpr ?_
   have t3:b3=true:=hb3.symm.trans (hw 3 (by decide+kernel))
   have t4:b4=true:=hb4.symm.trans (hw 4 (by decide+kernel))
   have f5:b5=false:=hb5.symm.trans hli
   rw [s23 t3,s24 t4]
   subst f5
   have f9:b9=false:=by cases b9 with | false=>rfl | true=>exact absurd (d9 rfl).1 (by decide)
   subst f9
   refine use (hlw (R:= [_,_,_,_]) hsep) ?_
   rintro _ w1 ⟨e,rfl,he,h1⟩
   refine ⟨e,rfl,hn' _ _ ?_⟩
   constructor<;>simp only [hput _ _ _ _ (show (25:Nat)<8000 by decide),Nat.reduceEqDiff,eq_self,reduceCtorEq,if_true,if_false]<;>first | assumption | (intro hh;cases hh;done) | skip
   exact Sep.swap (Sep.ex.2 ⟨e,Sep.pur.2 ⟨⟨rfl,he⟩,h1.ro 3 [0,1] rfl⟩⟩)
  | 6,_=>
   refine (opE6 T next _).mpr ?_
   have f6:b6=false:=hb6.symm.trans hli
   subst f6
   have f8:b8=false:=by cases b8 with | false=>rfl | true=>exact absurd (d8 rfl).2 (by decide)
   subst f8
   refine Al.i hsep (fun p w1 h1=>hn' _ _ ?_)
   constructor<;>simp only [hput _ _ _ _ (show (9:Nat)<8000 by decide),Nat.reduceEqDiff,eq_self,reduceCtorEq,if_true,if_false]<;>first | assumption | (intro hh;cases hh;done) | skip
   have h2:Sep E (PB true false (.pointer (some ⟨p,0,none⟩)) (T.get 22)::PA b2 (T.get 22) mn::PA b5 (T.get 25) lw::PB b7 b9 (T.get 10) (T.get 25)::M) w1:=Sep.ex.2 ⟨p,Sep.pur.2 ⟨rfl,h1.ro 4 [0,1,2] rfl⟩⟩
   exact h2.ro 3 [1,2,0] rfl
  | 7,_=>
   refine (opE7 T next _).mpr ?_
   have f7:b7=false:=hb7.symm.trans hli
   subst f7
   have f9:b9=false:=by cases b9 with | false=>rfl | true=>exact absurd (d9 rfl).2 (by decide)
   subst f9
   refine Al.i hsep (fun p w1 h1=>hn' _ _ ?_)
   constructor<;>simp only [hput _ _ _ _ (show (10:Nat)<8000 by decide),Nat.reduceEqDiff,eq_self,reduceCtorEq,if_true,if_false]<;>first | assumption | (intro hh;cases hh;done) | skip
   have h2:Sep E (PB true false (.pointer (some ⟨p,0,none⟩)) (T.get 25)::PA b2 (T.get 22) mn::PA b5 (T.get 25) lw::PB b6 b8 (T.get 9) (T.get 22)::M) w1:=Sep.ex.2 ⟨p,Sep.pur.2 ⟨rfl,h1.ro 5 [0,1,2,3] rfl⟩⟩
   exact h2.ro 4 [1,2,3,0] rfl
  | 8,_=>
   refine (opE8 T next _).mpr ?_
   have t2:b2=true:=hb2.symm.trans (hw 2 (by decide+kernel))
   have t6:b6=true:=hb6.symm.trans (hw 6 (by decide+kernel))
   have f8:b8=false:=hb8.symm.trans hli
   subst t2 t6 f8
   obtain ⟨s,hs⟩:=Sep.ex.1 hsep
   obtain ⟨⟨e22,hsl⟩,hs⟩:=Sep.pur.1 hs
   have hs:Sep E (PB true false (T.get 9) (T.get 22)::rowA s 1 (aak mn)::PA b5 (T.get 25) lw::PB b7 b9 (T.get 10) (T.get 25)::M) w:=hs.fr 2 rfl
   obtain ⟨p,hs⟩:=Sep.ex.1 hs
   obtain ⟨e9,hs⟩:=Sep.pur.1 hs
   rw [e9,e22,stE]
   refine St.i hs (by simp) (fun w1 h1=>hn' _ _ ?_)
   have h1:Sep E (blk p [.slice s.p s.n s.c]::rowA s 1 (aak mn)::PA b5 (T.get 25) lw::PB b7 b9 (T.get 10) (T.get 25)::M) w1:=h1
   rw [<- e22] at h1
   have h2:Sep E (PB true true (T.get 9) (T.get 22)::rowA s 1 (aak mn)::PA b5 (T.get 25) lw::PB b7 b9 (T.get 10) (T.get 25)::M) w1:=Sep.ex.2 ⟨p,Sep.pur.2 ⟨e9,h1⟩⟩
   have h3:Sep E (PA true (T.get 22) mn::PB true true (T.get 9) (T.get 22)::PA b5 (T.get 25) lw::PB b7 b9 (T.get 10) (T.get 25)::M) w1:=Sep.ex.2 ⟨s,Sep.pur.2 ⟨⟨e22,hsl⟩,h2.swap⟩⟩
   constructor<;>(try simp only [Nat.reduceEqDiff,eq_self,reduceCtorEq,if_true,if_false])<;>first | assumption | (intro _;exact ⟨trivial,trivial⟩) | skip
   exact h3.ro 3 [0,2,1] rfl
  | 9,_=>
   refine (opE9 T next _).mpr ?_
   have t5:b5=true:=hb5.symm.trans (hw 5 (by decide+kernel))
   have t7:b7=true:=hb7.symm.trans (hw 7 (by decide+kernel))
   have f9:b9=false:=hb9.symm.trans hli
   subst t5 t7 f9
   have hs0:Sep E (PA true (T.get 25) lw::PA b2 (T.get 22) mn::PB b6 b8 (T.get 9) (T.get 22)::PB true false (T.get 10) (T.get 25)::M) w:=hsep.swap
   obtain ⟨s,hs⟩:=Sep.ex.1 hs0
   obtain ⟨⟨e25,hsl⟩,hs⟩:=Sep.pur.1 hs
   have hs:Sep E (PB true false (T.get 10) (T.get 25)::rowA s 1 (aak lw)::PA b2 (T.get 22) mn::PB b6 b8 (T.get 9) (T.get 22)::M) w:=hs.fr 3 rfl
   obtain ⟨p,hs⟩:=Sep.ex.1 hs
   obtain ⟨e10,hs⟩:=Sep.pur.1 hs
   rw [e10,e25,stE]
   refine St.i hs (by simp) (fun w1 h1=>hn' _ _ ?_)
   have h1:Sep E (blk p [.slice s.p s.n s.c]::rowA s 1 (aak lw)::PA b2 (T.get 22) mn::PB b6 b8 (T.get 9) (T.get 22)::M) w1:=h1
   rw [<- e25] at h1
   have h2:Sep E (PB true true (T.get 10) (T.get 25)::rowA s 1 (aak lw)::PA b2 (T.get 22) mn::PB b6 b8 (T.get 9) (T.get 22)::M) w1:=Sep.ex.2 ⟨p,Sep.pur.2 ⟨e10,h1⟩⟩
   have h3:Sep E (PA true (T.get 25) lw::PB true true (T.get 10) (T.get 25)::PA b2 (T.get 22) mn::PB b6 b8 (T.get 9) (T.get 22)::M) w1:=Sep.ex.2 ⟨s,Sep.pur.2 ⟨⟨e25,hsl⟩,h2.swap⟩⟩
   constructor<;>(try simp only [Nat.reduceEqDiff,eq_self,reduceCtorEq,if_true,if_false])<;>first | assumption | (intro _;exact ⟨trivial,trivial⟩) | skip
   exact h3.ro 4 [2,0,3,1] rfl
  | n+10,hi=>exact absurd hi (by omega)
 ·rintro li T w ⟨hs10,j⟩ hr
  have ha:=av6 aHY hr
  rw [axs] at ha
  rw [ha 0 (by decide),ha 1 (by decide),ha 2 (by decide),ha 3 (by decide),ha 4 (by decide),ha 5 (by decide),ha 6 (by decide),ha 7 (by decide),ha 8 (by decide),ha 9 (by decide)] at j
  have h0:=j.sep
  obtain ⟨s1,h1⟩:=Sep.ex.1 h0
  obtain ⟨⟨e22,hl1⟩,h1⟩:=Sep.pur.1 h1
  obtain ⟨s2,h2⟩:=Sep.ex.1 h1.swap
  obtain ⟨⟨e25,hl2⟩,h2⟩:=Sep.pur.1 h2
  obtain ⟨p,h3⟩:=Sep.ex.1 (h2.fr 2 rfl)
  obtain ⟨e9,h3⟩:=Sep.pur.1 h3
  obtain ⟨q,h4⟩:=Sep.ex.1 (h3.fr 3 rfl)
  obtain ⟨e10,h4⟩:=Sep.pur.1 h4
  have h4:Sep E (blk q [T.get 25]::blk p [T.get 22]::rowA s2 1 (aak lw)::rowA s1 1 (aak mn)::M) w:=h4
  rw [e22,e25] at h4
  show ai5 [(9,.ptr),(10,.ptr)] J T w
  simp only [ai5,e9,e10,C1.un]
  exact k s1 s2 p q w hl1 hl2 (h4.ro 4 [3,2,1,0] rfl)
 ·unfold unlO
  exact Nat.le_trans (List.length_filter_le _ _) (by rw [List.length_range];exact Nat.le_refl _)
 ·have no:∀ i,i<10 ->(Array.replicate opsE.size false).getD i true=false:=by
   intro i hi
   rw [Array.getD_eq_getD_getElem?,Array.getElem?_replicate,if_pos (by rw [axs];exact hi)];rfl
  refine ⟨by rw [Array.size_replicate,axs],?_⟩
  rw [no 0 (by decide),no 1 (by decide),no 2 (by decide),no 3 (by decide),no 4 (by decide),no 5 (by decide),no 6 (by decide),no 7 (by decide),no 8 (by decide),no 9 (by decide)]
  exact ⟨h1,h4,fun h=>(by cases h),fun h=>(by cases h),fun h=>(by cases h),fun h=>(by cases h),fun h=>(by cases h),fun h=>(by cases h),Sep.emp.2 (Sep.emp.2 (Sep.emp.2 (Sep.emp.2 h)))⟩
end Go.Mp
end
section
set_option maxRecDepth 100000
namespace Go.Mp.Gp
open Go Go.Vc Go.Sp Go.Proofs Go.Shelf Go.Stab Go.Kc Go.Mp
variable {E:Env} {L:List Asn} {w:World} {R:List Ent} {l:Nat}
theorem apc {s:Sl} {gs:List Int} (hI:Ints E L s gs) (hb:gs.length<4611686018427387904) (v:Int) (h:Sep E L w):Calls P acd #[.slice s.p s.n s.c,.int .i64 v] w (Ret fun r w'=>r= .bool (gs.contains v)/\Sep E L w'):=by
 apply agW
 unfold aet
 have hidx:Calls P adC #[.slice s.p s.n s.c,.int .i64 v] w (Ret fun r w'=>∃ i:Int,r= .int .i64 i/\(decide (i≥0)=gs.contains v)/\Sep E L w'):=by
  apply aia
  unfold afe
  refine ⟨fun i w=>∃ k:Nat,i=k/\k<=gs.length/\(∀ j,j<k ->gs[j]? ≠some v)/\Sep E L w,fun i _=>(gs.length - i).toNat,⟨0,rfl,Nat.zero_le _,fun j hj=>absurd hj (Nat.not_lt_zero _),h⟩,?_⟩
  rintro _ i w1 ⟨k,rfl,hk,hno,h1⟩
  have hsn:=hI.1
  rw [hI.1]
  refine bLt (fun hlt=> ?_) (fun hge=>⟨-1,rfl,?_,h1⟩)
  ·have hx:gs[k]? =some (gs[k]'(by omega)):=List.getElem?_eq_getElem (by omega)
   generalize gs[k]'(by omega)=x at hx
   rw [<- hI.1]
   refine hI.el h1 k rfl hx (bEq (fun e=>⟨_,rfl,?_,h1⟩) (fun hne=> ?_))
   ·have:v∈gs:=by rw [e];exact List.mem_of_getElem? hx
    rw [List.contains_iff_mem.2 this];simp
   ·rw [w64 (by omega) (by omega)]
    refine ⟨⟨k+1,by omega,by omega,fun j hj=> ?_,h1⟩,by dsimp only;omega⟩
    by_cases hjk:j=k
    ·subst hjk;rw [hx];intro e;exact hne (Option.some.inj e).symm
    ·exact hno j (by omega)
  ·have:¬ v∈gs:=by
    intro hm
    obtain ⟨j,hj,e⟩:=List.mem_iff_getElem.1 hm
    exact hno j (by omega) (by rw [List.getElem?_eq_getElem hj,e])
   have h2:gs.contains v=false:=by rw [Bool.eq_false_iff];intro hc;exact this (List.contains_iff_mem.1 hc)
   rw [h2];rfl
 refine use hidx ?_
 rintro _ w1 ⟨i,rfl,hi,h1⟩
 exact ⟨_,rfl,by rw [hi],h1⟩
def ageZ (R:List Ent) (k:Int):Int:=(fnd R k).elim 0 (·.age)
def aot (R:List Ent) (a b:Int):Prop:=ageZ R b<ageZ R a\/(ageZ R a=ageZ R b/\a<b)
def ltZ (R:List Ent) (a b:Int):Bool:=decide (ageZ R b<ageZ R a)
theorem awh (R:List Ent):agp (aot R) (· < ·) (ltZ R):=by
 refine ⟨⟨fun x y z h1 h2=> ?_,fun x h=> ?_,fun x y h=> ?_⟩,fun x y h=>by omega,fun x y h=> ?_⟩
 ·unfold aot at *; omega
 ·unfold aot at h;omega
 ·unfold aot;omega
 ·unfold ltZ aot
  rw [decide_eq_true_iff]
  constructor
  ·exact .inl
  ·rintro (h1 | ⟨h1,h2⟩)
   ·exact h1
   ·exact absurd h2 (by have:x<y:=h;omega)
theorem aDs (x:Int) (w:World):Calls P agx #[.int .i64 x] w (Ret fun v w'=>v= .bool false/\w'=w):=by
 apply avr
 exact ⟨by simp,rfl⟩
theorem aEX (x y:Int) (w:World):Calls P ahw #[.int .i64 x,.int .i64 y] w (Ret fun v w'=>∃ r:Int,v= .int .i64 r/\decide (r<0)=decide (x<y)/\w'=w):=by
 apply arF
 unfold ak9
 refine use (aDs x w) ?_
 rintro _ _ ⟨rfl,rfl⟩
 refine ⟨_,rfl,use (aDs y _) ?_⟩
 rintro _ _ ⟨rfl,rfl⟩
 refine ⟨_,rfl,bifF (bifF (bLt (fun h=>⟨-1,rfl,by simp [h],rfl⟩) (fun h=>bGt (fun h2=>⟨1,rfl,?_,rfl⟩) (fun h2=>⟨0,rfl,?_,rfl⟩))))⟩
 ·rw [decide_eq_false (show ¬ x<y by omega)];rfl
 ·rw [decide_eq_false (show ¬ x<y by omega)];rfl
structure OrdOf (R:List Ent) (gs:List Int) (o:List Int):Prop where
 ord:o.Pairwise (aot R)
 mem:∀ k,k∈o↔∃ e,fnd R k=some e/\e.group∈gs
theorem aAB {α:Type} {r:α ->α ->Prop} (hirr:∀ x,¬ r x x) (htr:∀ x y z,r x y ->r y z ->r x z):∀ {a b:List α},a.Pairwise r ->b.Pairwise r ->(∀ k,k∈a↔k∈b) ->a=b
 | [],[],_,_,_=>rfl
 | [],y::b,_,_,h=>by have:=(h y).2 (by simp);cases this
 | x::a,[],_,_,h=>by have:=(h x).1 (by simp);cases this
 | x::a,y::b,ha,hb,h=>by
  have ha':=List.pairwise_cons.1 ha
  have hb':=List.pairwise_cons.1 hb
  have hxy:x=y:=by
   rcases List.mem_cons.1 ((h x).1 (by simp)) with e | e
   ·exact e
   ·rcases List.mem_cons.1 ((h y).2 (by simp)) with e' | e'
    ·exact e'.symm
    ·exact absurd (htr _ _ _ (hb'.1 x e) (ha'.1 y e')) (hirr _)
  subst hxy
  rw [aAB hirr htr ha'.2 hb'.2 (fun k=>⟨fun hk=> ?_,fun hk=> ?_⟩)]
  ·rcases List.mem_cons.1 ((h k).1 (List.mem_cons_of_mem _ hk)) with e | e
   ·rw [e] at hk;exact absurd (ha'.1 _ hk) (hirr _)
   ·exact e
  ·rcases List.mem_cons.1 ((h k).2 (List.mem_cons_of_mem _ hk)) with e | e
   ·rw [e] at hk;exact absurd (hb'.1 _ hk) (hirr _)
   ·exact e
theorem OrdOf.eq {gs o o':List Int} (h:OrdOf R gs o) (h':OrdOf R gs o'):o=o':=
 aAB (awh R).ord.irr (awh R).ord.trans h.ord h'.ord (fun k=>by rw [h.mem,h'.mem])
theorem aHp (G:Kc.Good R) {s:Sl} {gs:List Int} (hI:Ints E L s gs) (hb:gs.length<4611686018427387904) (h:Sep E (Lst l R::L) w):
  Calls P ahc #[.pointer (some ⟨l,0,none⟩),.slice s.p s.n s.c] w (Ret fun v w'=>∃ (t:Sl) (o:List Int),v= .slice t.p t.n t.c/\t.n=o.length/\OrdOf R gs o/\Sep E (rowA t 1 (intL o)::Lst l R::L) w'):=by
 apply aqx
 unfold ajX
 refine Al.i h (fun p1 w1 h1=>Al.i h1 (fun p3 w2 h2=> ?_))
 have h2:Sep E (blk p3 [.slice s.p s.n s.c]::blk p1 [.pointer (some ⟨l,0,none⟩)]::Lst l R::L) w2:=h2
 refine ld h2 1 rfl rfl rfl ⟨_,rfl,?_⟩
 obtain ⟨m,h3⟩:=Lst.open (h2.fr 2 rfl)
 have h3:Sep E (mapF m encI (gm R)::blk l [.map (some m)]::blk p3 [.slice s.p s.n s.c]::blk p1 [.pointer (some ⟨l,0,none⟩)]::L) w2:=h3.ro 4 [1,0,2,3] rfl
 refine ld h3 1 rfl rfl rfl (azj (N:=16777217) h3 (q:=0) rfl (fun k v hk=> ?_) (by decide) (fun t ks w3 hn hks h4=> ?_))
 ·unfold gm at hk
  cases hf:fnd R k with
  | none=>rw [hf] at hk;cases hk
  | some e=>
   obtain ⟨h1,h2⟩:=(adt G.rise).1 hf
   have:=(G.ok e h1).1
   omega
 have hmem:∀ k,k∈ks↔(fnd R k).isSome=true:=fun k=>by
  rw [hks.mem];unfold gm;cases fnd R k<;>rfl
 have hkl:ks.length<=16777217:=by
  refine ahD 16777217 ks (List.nodup_iff_pairwise_ne.2 (hks.rise.imp (fun hlt he=>by omega))) (fun x hx=> ?_)
  obtain ⟨e,he⟩:=Option.isSome_iff_exists.1 ((hmem x).1 hx)
  obtain ⟨h1,h2⟩:=(adt G.rise).1 he
  have:=(G.ok e h1).1
  omega
 obtain ⟨M,hM⟩:∃ M,M=mapF m encI (gm R)::blk l [.map (some m)]::blk p3 [.slice s.p s.n s.c]::blk p1 [.pointer (some ⟨l,0,none⟩)]::L:=⟨_,rfl⟩
 have hIM:Ints E M s gs:=by rw [hM];exact hI.cons.cons.cons.cons
 let q:Int ->Bool:=fun id=> !(gs.contains ((fnd R id).elim 0 (·.group)))
 refine use (arj (L:=M) (q:=q) ?_ hn (by omega) (by rw [hM];exact h4)) ?_
 ·intro r _ x w5 _ h5
  refine ⟨afU,_,rfl,by kernel_rfl,?_⟩
  refine use (K:=fun v w'=>v= .bool (q x)/\Sep E (rowA t 1 (intL r)::M) w') (aoo x ⟨p3,0,none⟩ ⟨p1,0,none⟩ ?_) (fun v w' ⟨hv,hs⟩=>⟨by rw [hv],hs⟩)
  unfold aiU
  refine Dr.i h5 (fun w6 h6=> ?_)
  have h6':=h6
  rw [hM] at h6'
  refine ld (x:=s) h6' 3 rfl rfl rfl (ld h6' 4 rfl rfl rfl ⟨_,rfl,ld h6' 2 rfl rfl rfl ⟨_,_,aEn (i:=1) h6' rfl x,use (apc hIM.cons hb _ h6) ?_⟩⟩)
  rintro _ w7 ⟨rfl,h7⟩
  exact ⟨_,rfl,rfl,h7⟩
 rintro _ w4 ⟨u,rfl,hu,h5⟩
 have hlen:(ks.filter fun x=> !q x).length<=ks.length:=List.length_filter_le _ _
 refine ⟨u,rfl,use (ami (awh R) (hks.rise.filter _) hu (by omega) ?_ h5) ?_⟩
 ·intro r x y w5 _ h6
  refine ⟨afV,_,rfl,by kernel_rfl,?_⟩
  refine use (K:=fun v w'=>∃ z:Int,v= .int .i64 z/\decide (z<0)=ltZ R x y/\Sep E (rowA u 1 (intL r)::M) w') (aop x y ⟨p1,0,none⟩ ?_) (fun v w' ⟨z,hv,hz,hs⟩=>⟨z,by rw [hv],hz,hs⟩)
  unfold aiV
  refine Dr.i h6 (fun w7 h7=> ?_)
  have h7':=h7
  rw [hM] at h7'
  refine ld h7' 4 rfl rfl rfl ⟨_,rfl,ld h7' 2 rfl rfl rfl ⟨_,_,aEn (i:=1) h7' rfl y,?_⟩⟩
  refine ld h7' 4 rfl rfl rfl ⟨_,rfl,ld h7' 2 rfl rfl rfl ⟨_,_,aEn (i:=1) h7' rfl x,use (aEX _ _ w7) ?_⟩⟩
  rintro _ _ ⟨z,rfl,hz,rfl⟩
  exact ⟨_,rfl,z,rfl,hz,h7⟩
 ·rintro _ w5 ⟨rfl,o,hperm,hord,h6⟩
  refine ⟨rfl,u,o,rfl,by rw [hu,hperm.length_eq],⟨hord,fun k=> ?_⟩,?_⟩
  ·rw [hperm.mem_iff,List.mem_filter,hmem]
   cases hf:fnd R k with
   | none=>simp
   | some e=>simp [q,hf]
  ·rw [hM] at h6
   have h7:Sep E (blk l [.map (some m)]::mapF m encI (gm R)::rowA u 1 (intL o)::L) w5:=h6.ro 5 [2,1,0] rfl
   exact (Lst.shut h7).swap
end Go.Mp.Gp
end
section
set_option maxRecDepth 100000
namespace Go.Kc
open Go Go.Kt
theorem aBT {R:List Ent} (G:Good R) (gs:List Int):Go.Mp.Gp.OrdOf R gs (ab6 R gs):=by
 have hage:∀ e∈R,Go.Mp.Gp.ageZ R e.id=e.age:=fun e he=>by
  unfold Go.Mp.Gp.ageZ;rw [(adt G.rise).2 ⟨he,rfl⟩];rfl
 refine ⟨?_,fun k=>⟨fun hk=> ?_,?_⟩⟩
 ·unfold ab6
  rw [List.pairwise_flatMap]
  refine ⟨fun a _=> ?_,?_⟩
  ·rw [List.pairwise_map]
   refine List.Pairwise.imp_of_mem (fun {x y} hx hy hxy=> ?_) (G.rise.filter _)
   rw [List.mem_filter,Bool.and_eq_true] at hx hy
   have h1:x.age=a:=by simpa using hx.2.2
   have h2:y.age=a:=by simpa using hy.2.2
   right
   rw [hage x hx.1,hage y hy.1]
   exact ⟨by rw [h1,h2],hxy⟩
  ·have h:([3,2,1,0]:List Int).Pairwise (fun a b=>b<a):=by decide
   refine h.imp (fun {a b} hab x hx y hy=> ?_)
   obtain ⟨e,he,rfl⟩:=List.mem_map.1 hx
   obtain ⟨f,hf,rfl⟩:=List.mem_map.1 hy
   rw [List.mem_filter,Bool.and_eq_true] at he hf
   have h1:e.age=a:=by simpa using he.2.2
   have h2:f.age=b:=by simpa using hf.2.2
   left
   rw [hage e he.1,hage f hf.1,h1,h2];exact hab
 ·obtain ⟨e,he,rfl,hg⟩:=anb hk
  exact ⟨e,(adt G.rise).2 ⟨he,rfl⟩,hg⟩
 ·rintro ⟨e,he,hg⟩
  obtain ⟨h1,rfl⟩:=(adt G.rise).1 he
  have h2:=(G.ok e h1).2.2
  unfold ab6
  refine List.mem_flatMap.2 ⟨e.age,?_,List.mem_map.2 ⟨e,List.mem_filter.2 ⟨h1,by simpa using hg⟩,rfl⟩⟩
  have:e.age=0\/e.age=1\/e.age=2\/e.age=3:=by omega
  rcases this with h | h | h | h<;>simp [h]
variable {S:Cs}
theorem Inv0.mem_lt (h:Inv0 S) (g:Int):S.memory g<2147483648:=by
 unfold Cs.memory
 by_cases hg:0<=g/\g<64
 ·rw [h.fr.use g hg.1 hg.2]
  have h1:cnt S.pages 1 (below S.tree g)<=cnt S.pages 1 (fun _=>true):=by
   unfold cnt
   refine aFl (fun i _ hi=> ?_)
   unfold onB at hi ⊢
   revert hi
   cases S.pages.pg (i:Int) with
   | none=>exact id
   | some p=>simp only [pB,Bool.and_eq_true,Bool.and_true];exact fun h=>h.1
  rw [<- h.fr.all] at h1
  have h2:=List.count_le_length (a:=true) (l:=S.fr.pool)
  have h3:=h.fr.few
  omega
 ·have:isG g=false:=by unfold isG;rw [Bool.and_eq_false_iff];simp;omega
  unfold cUse cOf
  rw [this];show (0:Int)<2147483648;decide
end Go.Kc
namespace Go.Mp
open Go Go.Vc Go.Sp Go.Proofs Go.Kc
variable {E:Env} {L:List Asn} {w:World} {A:At} {S:Cs}
theorem aFb {hv:Value} {hB:Int ->Bool} {o:List Int} {so:Sl} {bo bc:Nat} (hw:Kt.WF S.tree) (G:Kc.Good S.gens) (hso:so.n=o.length) (hb:o.length<100000000)
  (hh:∀ (x:Int) (X:Asn) (w:World),(∃ id∈o,x=(S.pages.get id).1.owner) ->Sep E (aaa A S++X::blk bo [.slice so.p so.n so.c]::rowA so 1 (intL o)::blk bc [.pointer (some ⟨A.c,0,none⟩)]::L) w ->
   abo P hv #[.int .i64 x] w fun e w'=>e= .returned (.bool (hB x))/\Sep E (aaa A S++X::blk bo [.slice so.p so.n so.c]::rowA so 1 (intL o)::blk bc [.pointer (some ⟨A.c,0,none⟩)]::L) w')
  (h:Sep E (aaa A S++blk bo [.slice so.p so.n so.c]::rowA so 1 (intL o)::blk bc [.pointer (some ⟨A.c,0,none⟩)]::L) w):
  Calls P aeD #[hv,.pointer (some ⟨bo,0,none⟩),.pointer (some ⟨bc,0,none⟩)] w (Ret fun v w'=>v= .bool (pass hB o S).2/\
   Sep E (aaa A (pass hB o S).1++blk bo [.slice so.p so.n so.c]::rowA so 1 (intL o)::blk bc [.pointer (some ⟨A.c,0,none⟩)]::L) w'):=by
 apply apo
 unfold ajz
 refine ⟨so,h.cellAt 16 rfl 0,?_⟩
 refine ⟨fun x w'=>∃ k:Nat,x=k/\k<=o.length/\pass hB o S=pass hB (o.drop k) S/\Sep E (aaa A S++blk bo [.slice so.p so.n so.c]::rowA so 1 (intL o)::blk bc [.pointer (some ⟨A.c,0,none⟩)]::L) w',fun x _=>(o.length - x).toNat,⟨0,rfl,Nat.zero_le _,rfl,h⟩,?_⟩
 rintro _ _ w1 ⟨k,rfl,hk,hp,h1⟩
 refine bLt (fun hlt=> ?_) (fun hge=> ?_)
 ·have hkl:k<o.length:=by omega
  obtain ⟨id,hid⟩:∃ id,o[k]? =some id:=⟨_,List.getElem?_eq_getElem hkl⟩
  have hdr:o.drop k=id::o.drop (k+1):=by rw [List.drop_eq_getElem_cons hkl];rw [List.getElem?_eq_getElem hkl] at hid;rw [Option.some.inj hid]
  have hmea:(((o.length:Nat):Int) - ((k+1:Nat):Int)).toNat<(((o.length:Nat):Int) - (k:Int)).toNat:=by omega
  refine (Ints.at_ (q:=17) rfl hso).el h1 k rfl hid ?_
  refine ld h1 18 rfl rfl rfl ⟨_,rfl,ld h1 0 rfl rfl rfl (use (Tp.ahW id (h1.fr 11 rfl)) ?_)⟩
  rintro _ w2 ⟨rfl,h2⟩
  have h2:=h2.put (q:=11) rfl
  have h2:Sep E (aaa A S++blk bo [.slice so.p so.n so.c]::rowA so 1 (intL o)::blk bc [.pointer (some ⟨A.c,0,none⟩)]::L) w2:=h2
  obtain ⟨p,hpg⟩:∃ p,(S.pages.get id).1=p:=⟨_,rfl⟩
  rw [hpg]
  refine ⟨_,_,_,_,_,_,_,_,_,_,rfl,Al.i h2 (fun b w3 h3=>zst (vs:=p.vs) _ h3 rfl (fun w4 h4=> ?_))⟩
  have h4:Sep E (aaa A S++blk b p.vs::blk bo [.slice so.p so.n so.c]::rowA so 1 (intL o)::blk bc [.pointer (some ⟨A.c,0,none⟩)]::L) w4:=Sep.inn h4
  refine ld h4 16 rfl rfl rfl (abo.use (hh p.owner _ _ ⟨id,List.mem_of_getElem? hid,by rw [hpg]⟩ h4) ?_)
  rintro e w5 ⟨rfl,h5⟩
  refine ⟨_,rfl,bifI (fun hnh=> ?_) (fun hheld=> ?_)⟩
  ·have hnh:hB p.owner=false:=by simpa using hnh
   refine ld h5 19 rfl rfl rfl (use (aIz id hw G h5) ?_)
   rintro _ w6 ⟨rfl,h6⟩
   have e1:pass hB (o.drop k) S=if (S.out id).2 then ((S.out id).1,true) else pass hB (o.drop (k+1)) (S.out id).1:=by
    rw [hdr,pass,hpg,hnh];rfl
   refine ⟨_,rfl,bifI (fun ho=> ?_) (fun ho=> ?_)⟩
   ·rw [hp,e1,if_pos ho]
    exact ⟨rfl,h6.cut⟩
   ·rw [aah (by omega)]
    rw [aks ho] at h6
    exact ⟨⟨k+1,rfl,hkl,by rw [hp,e1,if_neg (by rw [ho];decide),aks ho],h6.cut⟩,hmea⟩
  ·have hheld:hB p.owner=true:=by simpa using hheld
   rw [aah (by omega)]
   refine ⟨⟨k+1,rfl,hkl,?_,h5.cut⟩,hmea⟩
   rw [hp,hdr,pass,hpg,hheld];rfl
 ·have:k=o.length:=by omega
  rw [this,List.drop_length] at hp
  rw [hp]
  exact ⟨rfl,h1⟩
end Go.Mp
end
section
set_option maxRecDepth 100000
namespace Go.Sp
open Go
variable {E:Env} {L Q:List Asn} {w:World}
theorem Sep.inns (Xs:List Asn) (h:Sep E (Xs++(Q++L)) w):Sep E (Q++(Xs++L)) w:=h.perm (by
 rw [<- List.append_assoc,<- List.append_assoc]
 exact List.Perm.append_right _ List.perm_append_comm)
end Go.Sp
namespace Go.Mp
open Go Go.Vc Go.Sp Go.Proofs Go.Kc
variable {E:Env} {L:List Asn} {w:World} {A:At} {S:Cs}
theorem aye {l:List Kt.G} {g:Int} (h:Kt.aaf l g=true):0<=g/\g<l.length:=by
 obtain ⟨n,rfl,x,hx,_⟩:=Kt.aa7.1 h
 have:=(List.getElem?_eq_some_iff.1 hx).1
 omega
theorem aDo (I:Inv S) {t:Int} {all:Bool} {sg:Sl} {gs:List Int} (hI:Ints E L sg gs) (hgb:gs.length<=64) (h:Sep E (aaa A S++L) w):
  Calls P afk #[.pointer (some ⟨A.c,0,none⟩),.int .i64 t,.slice sg.p sg.n sg.c,.bool all] w (Ret fun v w'=>v= .bool (S.evictG t gs all).2/\Sep E (aaa A (S.evictG t gs all).1++L) w'):=by
 have hfew:S.guards.length<=64:=by rw [I.gl];exact I.wf.few
 apply arO
 refine Al.i h (fun p1 w1 h1=> ?_)
 have h1:Sep E (aaa A S++blk p1 [.pointer (some ⟨A.c,0,none⟩)]::L) w1:=Sep.inn h1
 refine ⟨some ⟨A.c,0,none⟩,h1.cellAt 16 rfl 0,_,rfl,ld h1 0 rfl rfl rfl (use (adG h1 (q:=1) rfl) ?_)⟩
 rintro _ _ ⟨rfl,rfl⟩
 refine ⟨_,rfl,bifI (fun hd=> ?_) (fun hl=> ?_)⟩
 ·have hd:S.live t=false:=by
   have:Kt.aaf S.tree t=false:=by simpa using hd
   exact this
  have e:S.evictG t gs all=(S,false):=by unfold Cs.evictG;rw [if_pos hd]
  rw [e]
  exact ⟨rfl,h1.cut⟩
 have hl:S.live t=true:=by
  have:Kt.aaf S.tree t=true:=by simpa using hl
  exact this
 obtain ⟨mn,hmn⟩:∃ mn,S.held t aaz.min=mn:=⟨_,rfl⟩
 obtain ⟨lw,hlw⟩:∃ lw,S.held t aaz.low=lw:=⟨_,rfl⟩
 have hml:mn.length=S.guards.length:=by rw [<- hmn];exact aiq _ _
 have hll:lw.length=S.guards.length:=by rw [<- hlw];exact aiq _ _
 obtain ⟨M,hM⟩:∃ M,M=aaa A S++blk p1 [.pointer (some ⟨A.c,0,none⟩)]::L:=⟨_,rfl⟩
 refine ⟨fun a b w'=>∃ (s1 s2:Sl) (p q:Nat),a=some ⟨p,0,none⟩/\b=some ⟨q,0,none⟩/\s1.n=mn.length/\s2.n=lw.length/\
  Sep E (rowA s1 1 (aak mn)::rowA s2 1 (aak lw)::blk p [.slice s1.p s1.n s1.c]::blk q [.slice s2.p s2.n s2.c]::M) w',Dr.i h1 (fun w2 h2=> ?_),?_⟩
 ·have hrot:∀ {R:List Asn} {w:World},Sep E (R++M) w ->Sep E (aaa A S++(blk p1 [.pointer (some ⟨A.c,0,none⟩)]::L++R)) w:=by
   intro R w hs
   have:=hs.perm List.perm_append_comm
   rw [hM,List.append_assoc] at this
   exact this
  have hback:∀ {R:List Asn} {w:World} {X:Asn},Sep E (aaa A S++X::(blk p1 [.pointer (some ⟨A.c,0,none⟩)]::L++R)) w ->Sep E (X::(R++M)) w:=by
   intro R w X hs
   refine (Sep.outt hs).perm (List.Perm.cons _ ?_)
   rw [<- List.append_assoc,<- hM]
   exact List.perm_append_comm
  refine aIC (M:=M) (c:=A.c) (bx:=p1) (t:=t) (mn:=mn) (lw:=lw) ?_ ?_ ?_ (by kernel_rfl) (by kernel_rfl) (by rw [hM];exact h2) ?_
  ·intro R w hs
   have:=hs.right
   rw [hM] at this
   exact this.cellAt 16 rfl 0
  ·intro R w hs
   refine use (awp aBX I.gl hfew I.mem_lt (hrot hs)) ?_
   rintro _ w' ⟨e,rfl,he,hs'⟩
   rw [hmn] at he hs'
   exact ⟨_,rfl,e,rfl,he,hback hs'⟩
  ·intro R w hs
   refine use (awp aBW I.gl hfew I.mem_lt (hrot hs)) ?_
   rintro _ w' ⟨e,rfl,he,hs'⟩
   rw [hlw] at he hs'
   exact ⟨_,rfl,e,rfl,he,hback hs'⟩
  ·intro s1 s2 p q w' e1 e2 hs
   exact ⟨s1,s2,p,q,rfl,rfl,e1,e2,hs⟩
 rintro _ _ _ w2 ⟨s1,s2,p,q,rfl,rfl,hs1,hs2,h2⟩
 rw [hM] at h2
 have h2:=Sep.inns [rowA s1 1 (aak mn),rowA s2 1 (aak lw),blk p [.slice s1.p s1.n s1.c],blk q [.slice s2.p s2.n s2.c]] (Q:=aaa A S) h2
 have h2:Sep E (aaa A S++rowA s1 1 (aak mn)::rowA s2 1 (aak lw)::blk p [.slice s1.p s1.n s1.c]::blk q [.slice s2.p s2.n s2.c]::blk p1 [.pointer (some ⟨A.c,0,none⟩)]::L) w2:=h2
 refine ⟨_,h2.cellAt 20 rfl 0,_,rfl,ld h2 0 rfl rfl rfl (use (Gp.aHp I.good (hI.cons.cons.cons.cons.cons.er (A:=A) (S:=S) (q:=9) (by decide)) (by omega) (h2.fr 9 rfl)) ?_)⟩
 rintro _ w3 ⟨so,o,rfl,hso,ho,h3⟩
 have ho:=ho.eq (aBT I.good gs)
 subst ho
 have h3:=h3.put1 (q:=9) rfl
 refine ⟨so,rfl,Al.i h3 (fun bo w4 h4=>St.i h4 (by simp) (fun w5 h5=> ?_))⟩
 have h5:=Sep.inns [blk bo [.slice so.p so.n so.c],rowA so 1 (intL (ab6 S.gens gs))] (Q:=aaa A S) (L:=rowA s1 1 (aak mn)::rowA s2 1 (aak lw)::blk p [.slice s1.p s1.n s1.c]::blk q [.slice s2.p s2.n s2.c]::blk p1 [.pointer (some ⟨A.c,0,none⟩)]::L) h5
 have h5:Sep E (aaa A S++blk bo [.slice so.p so.n so.c]::rowA so 1 (intL (ab6 S.gens gs))::blk p1 [.pointer (some ⟨A.c,0,none⟩)]::rowA s1 1 (aak mn)::rowA s2 1 (aak lw)::blk p [.slice s1.p s1.n s1.c]::blk q [.slice s2.p s2.n s2.c]::L) w5:=
  h5.ro 23 [0,1,2,3,4,5,6,7,8,9,10,11,12,13,14,15,16,17,22,18,19,20,21] rfl
 have hx:∀ x:Int,(∃ id∈ab6 S.gens gs,x=(S.pages.get id).1.owner) ->0<=x/\x<S.guards.length:=by
  rintro x ⟨id,hid,rfl⟩
  obtain ⟨pg,hpg,_,_⟩:=I.inFrame hid
  have hown:=I.own id pg hpg
  have:=aye (show Kt.aaf S.tree pg.owner=true from hown)
  rw [I.toInv0.page hpg,I.gl]
  exact this
 have hol:(ab6 S.gens gs).length<100000000:=by
  have h6:=aBT I.good gs
  have h7:=ahD 16777217 (ab6 S.gens gs) (List.nodup_iff_pairwise_ne.2 (h6.ord.imp (fun {a b} hab e=>by subst e;exact (Gp.awh S.gens).ord.irr a hab))) (fun x hx=>by
   obtain ⟨e,he,rfl,_⟩:=anb hx
   have:=(I.good.ok e he).1
   omega)
  omega
 have cut7:∀ {T:Cs} {w:World},Sep E (aaa A T++blk bo [.slice so.p so.n so.c]::rowA so 1 (intL (ab6 S.gens gs))::blk p1 [.pointer (some ⟨A.c,0,none⟩)]::rowA s1 1 (aak mn)::rowA s2 1 (aak lw)::blk p [.slice s1.p s1.n s1.c]::blk q [.slice s2.p s2.n s2.c]::L) w ->Sep E (aaa A T++L) w:=
  fun hs=>hs.cut.cut.cut.cut.cut.cut.cut
 refine use (aFb (hB:=fun g=>bAt mn g||bAt lw g) I.wf I.good hso hol ?_ h5) ?_
 ·intro x X w' hxo hs
  obtain ⟨hx0,hx1⟩:=hx x hxo
  refine ⟨agz,_,rfl,by kernel_rfl,?_⟩
  refine use (K:=fun v w'=>v= .bool (bAt mn x||bAt lw x)/\Sep E (aaa A S++X::blk bo [.slice so.p so.n so.c]::rowA so 1 (intL (ab6 S.gens gs))::blk p1 [.pointer (some ⟨A.c,0,none⟩)]::rowA s1 1 (aak mn)::rowA s2 1 (aak lw)::blk p [.slice s1.p s1.n s1.c]::blk q [.slice s2.p s2.n s2.c]::L) w')
   (apq x ⟨p,0,none⟩ ⟨q,0,none⟩ ?_) (fun v w' ⟨hv,hs⟩=>⟨by rw [hv],hs⟩)
  refine ⟨s1,hs.cellAt 22 rfl 0,elB 20 hs rfl hs1 hx0 (by omega) (bifI (fun hb=>⟨by rw [hb];rfl,hs⟩) (fun hb=>⟨s2,hs.cellAt 23 rfl 0,elB 21 hs rfl hs2 hx0 (by omega) ⟨by rw [hb];rfl,hs⟩⟩))⟩
 rintro _ w6 ⟨rfl,h6⟩
 have hev:S.evictG t gs all=if (pass (fun g=>bAt mn g||bAt lw g) (ab6 S.gens gs) S).2 then ((pass (fun g=>bAt mn g||bAt lw g) (ab6 S.gens gs) S).1,true) else if all then pass (fun g=>bAt mn g) (ab6 S.gens gs) (pass (fun g=>bAt mn g||bAt lw g) (ab6 S.gens gs) S).1 else ((pass (fun g=>bAt mn g||bAt lw g) (ab6 S.gens gs) S).1,false):=by
  unfold Cs.evictG
  rw [if_neg (by rw [hl];decide),hmn,hlw]
 refine ⟨_,rfl,bifI (fun hb=> ?_) (fun hb=> ?_)⟩
 ·rw [hev,if_pos hb]
  exact ⟨rfl,cut7 h6⟩
 have hsame:=ah5 _ hb
 rw [hev,if_neg (by rw [hb];decide),hsame]
 rw [hsame] at h6
 refine bifI (fun hall=> ?_) (fun hall=> ?_)
 ·rw [if_pos hall]
  refine use (aFb (hB:=fun g=>bAt mn g) I.wf I.good hso hol ?_ h6) ?_
  ·intro x X w' hxo hs
   obtain ⟨hx0,hx1⟩:=hx x hxo
   refine ⟨agA,_,rfl,by kernel_rfl,?_⟩
   refine use (K:=fun v w'=>v= .bool (bAt mn x)/\Sep E (aaa A S++X::blk bo [.slice so.p so.n so.c]::rowA so 1 (intL (ab6 S.gens gs))::blk p1 [.pointer (some ⟨A.c,0,none⟩)]::rowA s1 1 (aak mn)::rowA s2 1 (aak lw)::blk p [.slice s1.p s1.n s1.c]::blk q [.slice s2.p s2.n s2.c]::L) w')
    (apr x ⟨p,0,none⟩ ?_) (fun v w' ⟨hv,hs⟩=>⟨by rw [hv],hs⟩)
   exact ⟨s1,hs.cellAt 22 rfl 0,elB 20 hs rfl hs1 hx0 (by omega) ⟨rfl,hs⟩⟩
  rintro _ w7 ⟨rfl,h7⟩
  exact ⟨_,rfl,rfl,cut7 h7⟩
 ·rw [if_neg (by rw [hall];decide)]
  exact ⟨rfl,cut7 h6⟩
end Go.Mp
end
section
namespace Go.Kc
open Go Go.Kt Go.Sp
variable {S:Cs}
inductive Outs:Cs ->Cs ->Prop
 | refl (S:Cs):Outs S S
 | step {S S':Cs} {id:Int} {p:Pg} (hp:S.pages.pg id=some p) (h1:p.place=1) (ho:(S.out id).2=true) (h:Outs (S.out id).1 S'):Outs S S'
theorem Outs.trans {A B C:Cs} (h:Outs A B) (h':Outs B C):Outs A C:=by
 induction h with
 | refl=>exact h'
 | step hp h1 ho _ ih=>exact .step hp h1 ho (ih h')
theorem Outs.evictG (h:Inv S) (t:Int) (gs:List Int) (all:Bool):Outs S (S.evictG t gs all).1:=by
 cases hr:(S.evictG t gs all).2 with
 | false=>rw [ahr hr];exact .refl S
 | true=>
  obtain ⟨_,id,h1,_,h3,h4⟩:=akx hr
  obtain ⟨p,hp,hpl,_⟩:=h.inFrame h1
  rw [h4];exact .step hp hpl h3 (.refl _)
theorem Outs.inv {S':Cs} (h:Outs S S') (hi:Inv S):Inv S':=by
 induction h with
 | refl=>exact hi
 | step hp h1 ho _ ih=>exact ih (hi.out hp h1)
structure Kept (S S':Cs):Prop where
 tree:S'.tree=S.tree
 guards:S'.guards=S.guards
 sizes:S'.files.sizes=S.files.sizes
 next:S'.pages.next=S.pages.next
 pool:S'.fr.pool.length=S.fr.pool.length/\S'.sl.pool.length=S.sl.pool.length
 page:∀ id p,S.pages.pg id=some p ->∃ q,S'.pages.pg id=some q/\q.kf=p.kf/\q.ki=p.ki/\q.owner=p.owner/\q.refs=p.refs/\(p.place≠1 ->q=p)
 none_:∀ id,S.pages.pg id=none ->S'.pages.pg id=none
 lim:∀ g,aab S'.fr.used g=aab S.fr.used g/\aab S'.sl.used g=aab S.sl.used g
theorem Kept.refl (S:Cs):Kept S S:=⟨rfl,rfl,rfl,rfl,⟨rfl,rfl⟩,fun _ p h=>⟨p,h,rfl,rfl,rfl,rfl,fun _=>rfl⟩,fun _ h=>h,fun _=>⟨rfl,rfl⟩⟩
theorem Kept.trans {A B C:Cs} (h:Kept A B) (h':Kept B C):Kept A C:=by
 refine ⟨h'.tree.trans h.tree,h'.guards.trans h.guards,h'.sizes.trans h.sizes,h'.next.trans h.next,⟨h'.pool.1.trans h.pool.1,h'.pool.2.trans h.pool.2⟩,fun id p hp=> ?_,fun id hn=>h'.none_ id (h.none_ id hn),fun g=>⟨(h'.lim g).1.trans (h.lim g).1,(h'.lim g).2.trans (h.lim g).2⟩⟩
 obtain ⟨q,hq,a1,a2,a3,a4,a5⟩:=h.page id p hp
 obtain ⟨r,hr,b1,b2,b3,b4,b5⟩:=h'.page id q hq
 refine ⟨r,hr,b1.trans a1,b2.trans a2,b3.trans a3,b4.trans a4,fun hne=> ?_⟩
 have e:=a5 hne
 rw [b5 (by rw [e];exact hne),e]
theorem afx {C:List Cnt} (hC:C.length=64) (l:List Int) (n g:Int):aab (aaC C l n).1 g=aab C g:=by
 cases hr:ab2 l n with
 | false=>unfold aaC;rw [hr];rfl
 | true=>
  by_cases hb:∃ x∈l,cUse C x<n
  ·rw [ahp hr hb]
  ·rw [aeN hr (fun x hx=>Int.not_lt.1 (fun hlt=>hb ⟨x,hx,hlt⟩))]
   have:=abJ.1 hr
   exact adU hC this.1 this.2.1
theorem aD1 {C:List Cnt} (hC:C.length=64) (l:List Int) (n g:Int):aab (cTry C l n).1 g=aab C g:=by
 cases hr:ab2 l n with
 | false=>unfold cTry;rw [hr];rfl
 | true=>
  by_cases h0:(cTry C l n).2.2=0
  ·rw [(afN h0).2.1]
   have:=abJ.1 hr
   exact adU hC this.1 this.2.1
  ·obtain ⟨x,_,he,_⟩:=aeO hr h0
   rw [he]
theorem abv (T:TS) (id:Int) (d:Bool):(T.mark id d).1.next=T.next/\(T.mark id d).1.files=T.files/\(T.mark id d).1.spots=T.spots/\∀ x,(T.mark id d).1.pg x=(T.pg x).map fun p=>if x=id then {p with dirty:=d} else p:=by
 unfold TS.mark
 cases hp:T.pg id with
 | none=>
  refine ⟨rfl,rfl,rfl,fun x=> ?_⟩
  by_cases e:x=id
  ·subst e;simp [hp]
  ·cases T.pg x<;>simp [e]
 | some p=>
  refine ⟨rfl,rfl,rfl,fun x=> ?_⟩
  show upd T.pg id (some _) x=_
  by_cases e:x=id
  ·subst e;rw [ac8,hp];simp
  ·rw [upd_ne _ _ e];cases T.pg x<;>simp [e]
theorem aww {id:Int} {p0:Pg} (hp0:S.pages.pg id=some p0) (h1:p0.place=1) (p:Pg):Kept S (S.clean id p):=by
 obtain ⟨c1,c2,c3,c4,c5,c6,c7⟩:=adW (S:=S) id p
 refine ⟨c1,c7,?_,?_,⟨by rw [c2],by rw [c3]⟩,fun x q hq=> ?_,fun x hx=> ?_,fun g=>by rw [c2,c3];exact ⟨rfl,rfl⟩⟩
 ·unfold Cs.clean
  split
  ·show (aht _ _ _).1.sizes=_
   unfold aht
   split
   ·rfl
   ·split<;>rfl
  ·rfl
 ·unfold Cs.clean
  split
  ·exact (abv _ _ _).1
  ·rfl
 ·unfold Cs.clean
  split
  ·show ∃ r,(S.pages.mark id false).1.pg x=some r/\_
   rw [(abv _ _ _).2.2.2,hq]
   refine ⟨_,rfl,?_,?_,?_,?_,fun hne=> ?_⟩
   ·split<;>rfl
   ·split<;>rfl
   ·split<;>rfl
   ·split<;>rfl
   ·refine if_neg (fun e=> ?_)
    subst e
    rw [hp0] at hq
    rw [<- Option.some.inj hq] at hne
    exact hne h1
  ·exact ⟨q,hq,rfl,rfl,rfl,rfl,fun _=>rfl⟩
 ·unfold Cs.clean
  split
  ·show (S.pages.mark id false).1.pg x=none
   rw [(abv _ _ _).2.2.2,hx];rfl
  ·exact hx
theorem Kept.of_putT {T:TS} {id:Int} {p:Pg} {pl a:Int} (hp:T.pg id=some p) (h1:p.place=1):(∀ x q,T.pg x=some q ->∃ r,(T.putT id p pl a).pg x=some r/\r.kf=q.kf/\r.ki=q.ki/\r.owner=q.owner/\r.refs=q.refs/\(q.place≠1 ->r=q))/\∀ x,T.pg x=none ->(T.putT id p pl a).pg x=none:=by
 refine ⟨fun x q hq=> ?_,fun x hx=> ?_⟩
 ·rw [abB]
  by_cases e:x=id
  ·subst e
   rw [hp] at hq
   have:=Option.some.inj hq
   subst this
   exact ⟨_,if_pos rfl,rfl,rfl,rfl,rfl,fun hne=>absurd h1 hne⟩
  ·exact ⟨q,by rw [if_neg e];exact hq,rfl,rfl,rfl,rfl,fun _=>rfl⟩
 ·rw [abB]
  by_cases e:x=id
  ·subst e;rw [hp] at hx;cases hx
  ·rw [if_neg e];exact hx
theorem avH (h:Inv S) {id:Int} {p:Pg} (hp:S.pages.pg id=some p) (h1:p.place=1):Kept S (S.out id).1:=by
 cases ho:(S.out id).2 with
 | false=>rw [aks ho];exact .refl S
 | true=>
  unfold Cs.out at ho ⊢
  rw [h.page hp] at ho ⊢
  dsimp only at ho ⊢
  by_cases hk:0<=p.kf
  ·rw [if_pos hk]
   dsimp only
   refine (aww hp h1 p).trans ?_
   obtain ⟨q,hq,e1,e2,e3,e4,e5,e6⟩:=agu id p p hp
   have hcl:=h.clean id p
   rw [hcl.put0 hq]
   have hk2:=Kept.of_putT (pl:=0) (a:=0) hq (by rw [e1,h1])
   refine ⟨rfl,rfl,rfl,rfl,⟨?_,rfl⟩,hk2.1,hk2.2,fun g=>⟨?_,rfl⟩⟩
   ·exact aal _ _
   ·exact afx hcl.fr.used.len _ _ _
  ·rw [if_neg hk] at ho ⊢
   split at ho
   ·next hw=>
    rw [if_pos hw]
    dsimp only
    unfold Cs.away at hw ⊢
    split at hw
    ·cases hw
    next hany=>
    rw [if_neg hany]
    dsimp only at hw ⊢
    split at hw
    ·cases hw
    next hf=>
    rw [if_neg hf]
    dsimp only
    obtain ⟨a,ha,_,he⟩:=agM (by simpa using hf)
    rw [he]
    dsimp only
    have hnf:∀ q id',S.pages.pg id'=some q ->q.place=2 ->q.at_=(a:Int) ->(2:Int)≠0 ->id'=id:=by
     intro q id' hq e1 e2 _
     have:=(h.sl.taken a).2 ⟨id',q,hq,e1,e2⟩
     rw [ha] at this;cases this
    rw [h.tab.put_eq hp ⟨by decide,by decide,by omega,fun hh=>absurd hh (by decide)⟩ hnf]
    have hk2:=Kept.of_putT (pl:=2) (a:=a) hp h1
    refine ⟨rfl,rfl,rfl,rfl,⟨aal _ _,List.length_set⟩,hk2.1,hk2.2,fun g=>⟨afx h.fr.used.len _ _ _,aD1 h.sl.used.len _ _ _⟩⟩
   ·cases ho
theorem Outs.kept {S':Cs} (h:Outs S S') (hi:Inv S):Kept S S':=by
 induction h with
 | refl S=>exact .refl S
 | step hp h1 ho _ ih=>exact (avH hi hp h1).trans (ih (hi.out hp h1))
theorem ayG {C:List Cnt} (hC:C.length=64) {l:List Int} (hl:∀ g∈l,0<=g/\g<64) (hn:l.Nodup) (n:Int):cAdd (cAdd C l n) l (-n)=C:=by
 apply List.ext_getElem?
 intro i
 rcases Nat.lt_or_ge i 64 with hi | hi
 ·have h1:(cAdd (cAdd C l n) l (-n)).length=64:=by rw [acV,acV];exact hC
  have hg:isG (i:Int)=true:=abP.2 ⟨by omega,by omega⟩
  have:=aiC (-n) l (C:=cAdd C l n) (h:=(i:Int)) (by rw [acV];exact hC) hl hn hg
  rw [aiC n l hC hl hn hg] at this
  rw [Int.toNat_natCast] at this
  rw [List.getElem?_eq_getElem (by omega),List.getElem?_eq_getElem (by omega)]
  simp only [List.getD_eq_getElem?_getD] at this
  rw [List.getElem?_eq_getElem (by omega),List.getElem?_eq_getElem (by omega)] at this
  simp only [Option.getD_some] at this
  rw [this]
  split
  ·next hm=>
   congr 1
   generalize C[i]=c
   cases c
   simp only [Cnt.mk.injEq,and_true]
   omega
  ·rfl
 ·rw [List.getElem?_eq_none (by rw [acV,acV];omega),List.getElem?_eq_none (by omega)]
structure Took (S S0:Cs) (g:Int) (a:Nat) (r:Cs×Int×Int×Int):Prop where
 outs:Outs S S0
 free:S0.fr.pool[a]? =some false
 least:∀ j,j<a ->S0.fr.pool[j]? =some true
 lim:∀ x∈aac S.tree g,cUse S0.fr.used x+1<=aab S0.fr.used x
 eq:r=({S0 with fr:= {S0.fr with pool:=S0.fr.pool.set a true,used:=cAdd S0.fr.used (aac S.tree g) 1}},(a:Int), -1,0)
structure aho (S S0:Cs) (g t:Int) (r:Cs×Int×Int×Int):Prop where
 outs:Outs S S0
 no:(S0.evict t).2=false
 why:(t=0/\∀ b∈S0.fr.pool,b=true)\/(t∈aac S.tree g/\aab S0.fr.used t<cUse S0.fr.used t+1)
 eq:r=(S0, -1,t,12)
theorem take_spec {g:Int} :∀ (n:Nat) {S:Cs},Inv S ->S.live g=true ->S.gens.length<n ->(∃ S0 a,Took S S0 g a (take g n S))\/∃ S0 t,aho S S0 g t (take g n S):=by
 intro n
 induction n with
 | zero=>intro S _ _ h;omega
 | succ n ih=>
  intro S h hl hn
  have hc:=aan h.wf hl
  have hr:=acW h.wf hl (n:=1) ⟨by decide,by decide⟩
  have full:∀ t:Int,((t=0/\∀ b∈S.fr.pool,b=true)\/(t∈aac S.tree g/\aab S.fr.used t<cUse S.fr.used t+1)) ->
    (∃ S0 a,Took S S0 g a (if (S.evict t).2 then take g n (S.evict t).1 else ((S.evict t).1, -1,t,12)))\/∃ S0 t',aho S S0 g t' (if (S.evict t).2 then take g n (S.evict t).1 else ((S.evict t).1, -1,t,12)):=by
   intro t ht
   cases he:(S.evict t).2 with
   | false=>
    refine .inr ⟨S,t,.refl S,he,ht,?_⟩
    have:(S.evict t).1=S:=ahr he
    rw [this];rfl
   | true=>
    have hi:=h.evict t
    have ho:Outs S (S.evict t).1:=Outs.evictG h t _ _
    have hk:=ho.kept h
    have hlt:=auo h he
    have hl':(S.evict t).1.live g=true:=by unfold Cs.live;rw [hk.tree];exact hl
    rcases ih hi hl' (by have:(S.evict t).1.gens.length<S.gens.length:=hlt;omega) with ⟨S0,a,k⟩ | ⟨S0,t',k⟩
    ·refine .inl ⟨S0,a,ho.trans k.outs,k.free,k.least,?_,?_⟩
     ·have:=k.lim;rw [hk.tree] at this;exact this
     ·have:=k.eq;rw [hk.tree] at this;simpa using this
    ·refine .inr ⟨S0,t',ho.trans k.outs,k.no,?_,by simpa using k.eq⟩
     have:=k.why;rw [hk.tree] at this;exact this
  unfold take
  dsimp only
  by_cases h0:(cTry S.fr.used (S.chain g) 1).2.2=0
  ·rw [if_pos h0]
   obtain ⟨_,he,hle⟩:=afN h0
   by_cases hp:(abq S.fr.pool).2.2=0
   ·rw [if_pos hp]
    obtain ⟨a,ha,hleast,hpe⟩:=agM hp
    refine .inl ⟨S,a,.refl S,ha,hleast,fun x hx=>hle x hx (by decide),?_⟩
    rw [he,hpe];rfl
   ·rw [if_neg hp]
    have hback:(aaC (cTry S.fr.used (S.chain g) 1).1 (S.chain g) 1).1=S.fr.used:=by
     rw [he]
     show (aaC (cAdd S.fr.used (aac S.tree g) 1) (aac S.tree g) 1).1=_
     rw [aeN hr (fun x hx=> ?_)]
     ·exact ayG h.fr.used.len hc.1 hc.2.1 1
     ·rw [acm h.fr.used.len hc.1 hc.2.1,if_pos hx]
      have:=(h.fr.used.of x).1.1
      unfold cUse;omega
    rw [hback]
    exact full 0 (.inl ⟨rfl,(apz hp).1⟩)
  ·rw [if_neg h0]
   obtain ⟨x,hx,he,_,hlt⟩:=aeO hr h0
   rw [show cTry S.fr.used (S.chain g) 1=(S.fr.used,x,22) from he]
   exact full x (.inr ⟨hx,hlt⟩)
theorem Cs.take_spec (h:Inv S) {g:Int} (hl:S.live g=true):(∃ S0 a,Took S S0 g a (S.take g))\/∃ S0 t,aho S S0 g t (S.take g):=Kc.take_spec _ h hl (by omega)
theorem aa8.more {T T':TS} {tree:List G} {s:Store} {pl:Int} (hT:acp T) (h:aa8 T tree s pl) (hpl:pl≠0) (hn:T'.next=T.next+1) (hoth:∀ x,x≠T.next ->T'.pg x=T.pg x) {p:Pg} (hp:T'.pg T.next=some p) (h0:p.place=0):aa8 T' tree s pl:=by
 have hnone:T.pg T.next=none:=by
  cases hq:T.pg T.next with
  | none=>rfl
  | some q=>have:=hT.ids _ _ hq;omega
 have key:∀ is:Pg ->Bool,cnt T' pl is=cnt T pl is:=by
  intro is
  unfold cnt
  have e:T'.next.toNat=T.next.toNat+1:=by have:=hT.next;omega
  rw [e,ahq]
  have e2:((T.next.toNat:Nat):Int)=T.next:=by have:=hT.next;omega
  have:onB T' pl is T.next.toNat=false:=by unfold onB;rw [e2,hp];simp [h0,Ne.symm hpl]
  rw [this]
  show cntP _ _+0=_
  rw [Nat.add_zero]
  exact ape (fun i hi=>by unfold onB;rw [hoth (i:Int) (by omega)])
 refine ⟨h.few,h.len,h.used,fun a=> ?_,fun g hg hg'=>by rw [h.use g hg hg',key],by rw [h.all,key]⟩
 rw [h.taken a]
 constructor
 ·rintro ⟨x,q,hq,e1,e2⟩
  have hx:x≠T.next:=fun e=>by rw [e,hnone] at hq;cases hq
  exact ⟨x,q,by rw [hoth x hx];exact hq,e1,e2⟩
 ·rintro ⟨x,q,hq,e1,e2⟩
  by_cases hx:x=T.next
  ·subst hx
   rw [hp] at hq
   rw [<- Option.some.inj hq,h0] at e1
   exact absurd e1.symm hpl
  ·rw [hoth x hx] at hq;exact ⟨x,q,hq,e1,e2⟩
def aaR (T:TS) (kf ki:Int):Int×Int:=if kf<0 then (-1,T.next) else (kf,ki)
theorem aDE (T:TS) {kf ki o:Int} (hn:0<=T.next/\T.next<16777216) (hok:kf<0\/T.of (kf,ki)<0):
  T.make kf ki o=(⟨upd T.pg T.next (some ⟨(aaR T kf ki).1,(aaR T kf ki).2,0,0,o,0,0,false,false⟩),if kf<0 then T.files else upd T.files (kf,ki) (some T.next),T.spots,T.next+1⟩,T.next,0):=by
 have hw:IntKind.i64.wrap (T.next+1)=T.next+1:=w64 (by omega) (by omega)
 unfold TS.make aaR
 by_cases h0:kf<0
 ·rw [if_pos h0,if_pos h0,if_pos h0]
  unfold TS.new_
  rw [hw]
 ·rw [if_neg h0,if_neg h0,if_neg h0,if_neg (by omega)]
  unfold TS.new_
  dsimp only
  rw [hw]
theorem Inv0.make (h:Inv0 S) (hn:S.pages.next<16777216) {kf ki o:Int} (hl:S.live o=true) (hok:kf<0\/(S.pages.of (kf,ki)<0/\fHas S.files (kf,ki)=true)):Inv0 {S with pages:=(S.pages.make kf ki o).1} :=by
 rw [aDE _ ⟨h.tab.next,hn⟩ (hok.imp_right And.left)]
 dsimp only
 generalize hT':(⟨upd S.pages.pg S.pages.next (some ⟨(aaR S.pages kf ki).1,(aaR S.pages kf ki).2,0,0,o,0,0,false,false⟩),if kf<0 then S.pages.files else upd S.pages.files (kf,ki) (some S.pages.next),S.pages.spots,S.pages.next+1⟩:TS)=T'
 have hpg:∀ x,T'.pg x=if x=S.pages.next then some ⟨(aaR S.pages kf ki).1,(aaR S.pages kf ki).2,0,0,o,0,0,false,false⟩ else S.pages.pg x:=by subst hT';exact fun x=>rfl
 have hsp:T'.spots=S.pages.spots:=by subst hT';rfl
 have hnx:T'.next=S.pages.next+1:=by subst hT';rfl
 have hfl:T'.files=if kf<0 then S.pages.files else upd S.pages.files (kf,ki) (some S.pages.next):=by subst hT';rfl
 clear hT'
 have hnone:S.pages.pg S.pages.next=none:=by
  cases hq:S.pages.pg S.pages.next with
  | none=>rfl
  | some q=>have:=h.tab.ids _ _ hq;omega
 have hoth:∀ x,x≠S.pages.next ->T'.pg x=S.pages.pg x:=fun x hx=>by rw [hpg,if_neg hx]
 have hnew:T'.pg S.pages.next=some ⟨(aaR S.pages kf ki).1,(aaR S.pages kf ki).2,0,0,o,0,0,false,false⟩:=by rw [hpg,if_pos rfl]
 refine {h with tab:=⟨by rw [hnx];have:=h.tab.next;omega,fun x q hq=> ?_,fun pl a x=> ?_,fun kf' ki' x=> ?_,fun x q hq=> ?_⟩,own:=fun x q hq=> ?_,fr:=h.fr.more h.tab (by decide) hnx hoth hnew rfl,sl:=h.sl.more h.tab (by decide) hnx hoth hnew rfl,gen:=fun x g=> ?_,fil:=fun x q hq=> ?_,ids:=by show T'.next<=_;rw [hnx];omega}
 ·rw [hnx]
  rw [hpg] at hq
  split at hq
  ·next e=>subst e;have:=h.tab.next;omega
  ·have:=h.tab.ids _ _ hq;omega
 ·rw [hsp,h.tab.spot]
  constructor
  ·rintro ⟨q,hq,e⟩
   exact ⟨q,by rw [hoth x (fun e=>by rw [e,hnone] at hq;cases hq)];exact hq,e⟩
  ·rintro ⟨q,hq,e1,e2,e3⟩
   rw [hpg] at hq
   split at hq
   ·rw [<- Option.some.inj hq] at e1
    exact absurd e1.symm e3
   ·exact ⟨q,hq,e1,e2,e3⟩
 ·rw [hfl]
  by_cases h0:kf<0
  ·rw [if_pos h0,h.tab.file]
   constructor
   ·rintro ⟨q,hq,e⟩
    exact ⟨q,by rw [hoth x (fun e=>by rw [e,hnone] at hq;cases hq)];exact hq,e⟩
   ·rintro ⟨q,hq,e1,e2,e3⟩
    rw [hpg] at hq
    split at hq
    ·rw [<- Option.some.inj hq] at e1
     have e1:(aaR S.pages kf ki).1=kf':=e1
     unfold aaR at e1
     rw [if_pos h0] at e1
     have e1:(-1:Int)=kf':=e1
     omega
    ·exact ⟨q,hq,e1,e2,e3⟩
  ·rw [if_neg h0]
   have hof:S.pages.files (kf,ki)=none:=by
    rcases hok with hh | ⟨hh,_⟩
    ·exact absurd hh h0
    ·unfold TS.of at hh
     cases hf:S.pages.files (kf,ki) with
     | none=>rfl
     | some x=>
      rw [hf] at hh
      obtain ⟨q,hq,_⟩:=(h.tab.file kf ki x).1 hf
      have:=h.tab.ids _ _ hq
      simp at hh;omega
   unfold upd
   by_cases e:(kf',ki')=(kf,ki)
   ·rw [if_pos e]
    have e:kf'=kf/\ki'=ki:=by simpa using e
    obtain ⟨rfl,rfl⟩:=e
    constructor
    ·intro hx
     have:=Option.some.inj hx
     subst this
     refine ⟨_,hnew,?_,?_,by omega⟩
     ·show (aaR S.pages kf' ki').1=kf';unfold aaR;rw [if_neg h0]
     ·show (aaR S.pages kf' ki').2=ki';unfold aaR;rw [if_neg h0]
    ·rintro ⟨q,hq,e1,e2,e3⟩
     rw [hpg] at hq
     split at hq
     ·next e=>rw [e]
     ·have:=(h.tab.file kf' ki' x).2 ⟨q,hq,e1,e2,e3⟩
      rw [hof] at this;cases this
   ·rw [if_neg e,h.tab.file]
    constructor
    ·rintro ⟨q,hq,e⟩
     exact ⟨q,by rw [hoth x (fun e=>by rw [e,hnone] at hq;cases hq)];exact hq,e⟩
    ·rintro ⟨q,hq,e1,e2,e3⟩
     rw [hpg] at hq
     split at hq
     ·rw [<- Option.some.inj hq] at e1 e2
      have e1:(aaR S.pages kf ki).1=kf':=e1
      have e2:(aaR S.pages kf ki).2=ki':=e2
      unfold aaR at e1 e2
      rw [if_neg h0] at e1 e2
      exact absurd (by rw [<- e1,<- e2]) e
     ·exact ⟨q,hq,e1,e2,e3⟩
 ·rw [hpg] at hq
  split at hq
  ·rw [<- Option.some.inj hq];exact ⟨⟨Int.le_refl _,(by show (0:Int)<=2;decide),Int.le_refl _,fun _=>rfl⟩,Int.le_refl _⟩
  ·exact h.tab.pl _ _ hq
 ·rw [hpg] at hq
  split at hq
  ·rw [<- Option.some.inj hq];exact hl
  ·exact h.own _ _ hq
 ·show _↔∃ p,T'.pg x=some p/\_
  rw [h.gen]
  constructor
  ·rintro ⟨q,hq,e⟩
   exact ⟨q,by rw [hoth x (fun e=>by rw [e,hnone] at hq;cases hq)];exact hq,e⟩
  ·rintro ⟨q,hq,e1,e2⟩
   rw [hpg] at hq
   split at hq
   ·rw [<- Option.some.inj hq] at e1;cases e1
   ·exact ⟨q,hq,e1,e2⟩
 ·intro hk
  rw [hpg] at hq
  split at hq
  ·rw [<- Option.some.inj hq] at hk ⊢
   have hk:0<=(aaR S.pages kf ki).1:=hk
   refine ⟨?_,by show (0:Int)≠2;decide⟩
   show fHas S.files ((aaR S.pages kf ki).1,(aaR S.pages kf ki).2)=true
   unfold aaR at hk ⊢
   by_cases h0:kf<0
   ·rw [if_pos h0] at hk;have hk:(0:Int)<= -1:=hk;omega
   ·rw [if_neg h0]
    rcases hok with hh | ⟨_,hh⟩
    ·exact absurd hh h0
    ·exact hh
  ·exact h.fil _ _ hq hk
theorem aH7 (h:Inv0 S) {id:Int} (hno:∀ p,S.pages.pg id=some p ->p.place≠1):fnd S.gens id=none:=by
 rw [akm h.good.rise]
 rintro e he rfl
 obtain ⟨p,hp,h1,_⟩:=(h.gen e.id e.group).1 ⟨e,he,rfl,rfl⟩
 exact hno p hp h1
theorem aIi {T:TS} {id o:Int} {p:Pg} (hp:T.pg id=some p):T.own id o=(T.setPg id {p with owner:=o},0):=by unfold TS.own;rw [hp]
theorem Inv0.toFrame (h:Inv0 S) {id g:Int} {p:Pg} (hp:S.pages.pg id=some p) (h0:p.place=0\/(p.place=2/\p.owner=g)) (hl:S.live g=true) {a:Nat} (ha:S.fr.pool[a]? =some false) (hlim:∀ x∈aac S.tree g,cUse S.fr.used x+1<=aab S.fr.used x) (text:List UInt8) (old:Bool):
  Inv0 (Cs.place {S with fr:= {S.fr with pool:=S.fr.pool.set a true,used:=cAdd S.fr.used (aac S.tree g) 1},sl:=if p.place=2 then S.sl.give p.at_ (aac S.tree g) else S.sl} id a g text old)/\
  ((S.pages.own id g).1.put id 1 a).1=(S.pages.setPg id {p with owner:=g}).putT id {p with owner:=g} 1 a:=by
 have hne1:p.place≠1:=by rcases h0 with e | ⟨e,_⟩<;>rw [e]<;>decide
 have hT1:acp (S.pages.setPg id {p with owner:=g}):=h.tab.set hp rfl rfl rfl rfl (h.tab.pl _ _ hp).2
 have hp1:(S.pages.setPg id {p with owner:=g}).pg id=some {p with owner:=g} :=ac8 _ _ _
 have hno1:∀ q x,S.pages.pg x=some q ->q.place=1 ->q.at_≠(a:Int):=by
  intro q x hq e1 e2
  have:=(h.fr.taken a).2 ⟨x,q,hq,e1,e2⟩
  rw [ha] at this;cases this
 have hnf:∀ q x,(S.pages.setPg id {p with owner:=g}).pg x=some q ->q.place=1 ->q.at_=(a:Int) ->(1:Int)≠0 ->x=id:=by
  intro q x hq e1 e2 _
  rcases acK hq with ⟨e,_⟩ | ⟨_,hq⟩
  ·exact e
  ·exact absurd e2 (hno1 q x hq e1)
 have heq:((S.pages.own id g).1.put id 1 a).1=(S.pages.setPg id {p with owner:=g}).putT id {p with owner:=g} 1 a:=by
  rw [aIi hp,hT1.put_eq hp1 ⟨by decide,by decide,by omega,fun hh=>absurd hh (by decide)⟩ hnf]
 refine ⟨?_,heq⟩
 have hT:=hT1.putT hp1 (pl:=1) (a:=a) ⟨by decide,by decide,by omega,fun hh=>absurd hh (by decide)⟩ hnf
 have hpg:∀ x,((S.pages.setPg id {p with owner:=g}).putT id {p with owner:=g} 1 a).pg x=if x=id then some {p with owner:=g,place:=1,at_:=a} else S.pages.pg x:=by
  intro x
  rw [abB]
  by_cases e:x=id
  ·rw [if_pos e,if_pos e];rfl
  ·rw [if_neg e,if_neg e];exact upd_ne _ _ e
 have hoth:∀ x,x≠id ->((S.pages.setPg id {p with owner:=g}).putT id {p with owner:=g} 1 a).pg x=S.pages.pg x:=fun x hx=>by rw [hpg,if_neg hx]
 have hgb:¬ gBad id g:=by
  unfold gBad
  have h1:=h.tab.ids _ _ hp
  have h2:=h.ids
  have h3:=adP hl
  have h4:=h.wf.few
  omega
 have hfn:=aH7 h (id:=id) (fun q hq=>by rw [hp] at hq;rw [<- Option.some.inj hq];exact hne1)
 unfold Cs.place
 rw [heq]
 refine ⟨h.wf,h.gl,hT,fun x q hq=> ?_,?_,?_,h.good.add id g old,fun x o=> ?_,h.log,fun x q hq=> ?_,h.txt,h.ids⟩
 ·rw [hpg] at hq
  split at hq
  ·rw [<- Option.some.inj hq];exact hl
  ·exact h.own _ _ hq
 ·refine h.fr.take_ (T':=(S.pages.setPg id {p with owner:=g}).putT id {p with owner:=g} 1 a) h.tab h.wf hp hne1 rfl hoth (q:= {p with owner:=g,place:=1,at_:=a}) (by rw [hpg,if_pos rfl]) rfl hl rfl ha hlim ?_
  show (By.wr (S.fr.pool.set a true).length S.fr.by_ a text).1.length=_
  rw [List.length_set];exact By.asP h.fr.len _
 ·show aa8 _ _ (if p.place=2 then S.sl.give p.at_ (aac S.tree g) else S.sl) 2
  rcases h0 with h0 | ⟨h0,hg⟩
  ·rw [if_neg (by rw [h0];decide)]
   refine h.sl.other rfl (fun x=> ?_)
   by_cases hx:x=id
   ·subst hx
    refine .inr (.inl ⟨fun q hq=> ?_,fun q hq=> ?_⟩)
    ·rw [hp] at hq;rw [<- Option.some.inj hq,h0];decide
    ·rw [hpg,if_pos rfl] at hq;rw [<- Option.some.inj hq];show (1:Int)≠2;decide
   ·exact .inl (hoth x hx)
  ·rw [if_pos h0,<- hg]
   rw [<- hg] at hoth hpg
   refine h.sl.give h.tab h.wf (by decide) hp h0 (h.own _ _ hp) rfl hoth (fun q hq=> ?_)
   rw [hpg,if_pos rfl] at hq;rw [<- Option.some.inj hq];show (1:Int)≠2;decide
 ·show (∃ e∈(gAdd S.gens id g old).1,e.id=x/\e.group=o)↔∃ q,((S.pages.setPg id {p with owner:=g}).putT id {p with owner:=g} 1 a).pg x=some q/\q.place=1/\q.owner=o
  rw [aGt h.good hgb hfn,h.gen,hpg]
  by_cases hx:x=id
  ·rw [if_pos hx]
   constructor
   ·rintro (⟨_,e⟩ | ⟨q,hq,e1,_⟩)
    ·exact ⟨_,rfl,rfl,e.symm⟩
    ·rw [hx,hp] at hq
     rw [<- Option.some.inj hq] at e1;exact absurd e1 hne1
   ·rintro ⟨q,hq,e1,e2⟩
    rw [<- Option.some.inj hq] at e2
    exact .inl ⟨hx,e2.symm⟩
  ·rw [if_neg hx]
   exact ⟨fun hh=>hh.resolve_left (fun e=>hx e.1),.inr⟩
 ·rw [hpg] at hq
  split at hq
  ·rw [<- Option.some.inj hq]
   exact fun hk=>⟨(h.fil _ _ hp hk).1,by show (1:Int)≠2;decide⟩
  ·exact h.fil _ _ hq
end Go.Kc
end
section
set_option maxRecDepth 100000
namespace Go.Kc
open Go Go.Kt
theorem apa {l:List G} (hw:WF l) (g:Int):(abe l g).length<=64:=by
 unfold abe ahP
 have:=hw.few
 split
 ·rw [List.length_map]
  exact Nat.le_trans (List.length_filter_le _ _) (by rw [List.length_range];exact this)
 ·exact Nat.zero_le _
theorem aIc {p:Nat ->Prop} (h:∃ n,p n):∃ n,p n/\∀ m,p m ->n<=m:=by
 obtain ⟨n,hn⟩:=h
 induction n using Nat.strongRecOn with
 | _ n ih=>
  by_cases h:∃ m,m<n/\p m
  ·obtain ⟨m,hm,hp⟩:=h;exact ih m hm hp
  ·exact ⟨n,hn,fun m hm=>Nat.le_of_not_lt (fun hlt=>h ⟨m,hlt,hm⟩)⟩
variable {S:Cs}
theorem aEP (h:Inv S) {g:Int} (hl:S.live g=true) (h0:(cTry S.fr.used (S.chain g) 1).2.2=0):(aaC (cTry S.fr.used (S.chain g) 1).1 (S.chain g) 1).1=S.fr.used:=by
 have hc:=aan h.wf hl
 have hr:=acW h.wf hl (n:=1) ⟨by decide,by decide⟩
 obtain ⟨_,he,_⟩:=afN h0
 rw [he]
 show (aaC (cAdd S.fr.used (aac S.tree g) 1) (aac S.tree g) 1).1=_
 rw [aeN hr (fun x hx=> ?_)]
 ·exact ayG h.fr.used.len hc.1 hc.2.1 1
 ·rw [acm h.fr.used.len hc.1 hc.2.1,if_pos hx]
  have:=(h.fr.used.of x).1.1
  unfold cUse;omega
end Go.Kc
namespace Go.Mp
open Go Go.Vc Go.Sp Go.Proofs Go.Kc
variable {E:Env} {L:List Asn} {w:World} {A:At} {S:Cs}
theorem aob (I:Inv S) {t:Int} (h:Sep E (aaa A S++L) w):Calls P aa6 #[.pointer (some ⟨A.c,0,none⟩),.int .i64 t] w (Ret fun v w'=>v= .bool (S.evict t).2/\Sep E (aaa A (S.evict t).1++L) w'):=by
 apply arH
 refine ⟨_,rfl,ld h 0 rfl rfl rfl (use (asS I.wf (h.fr 1 rfl)) ?_)⟩
 rintro _ w1 ⟨s,rfl,hs,h1⟩
 have h1:=h1.put1 (q:=1) rfl
 have h1:Sep E (aaa A S++rowA s 1 (intL (Kt.abe S.tree t))::L) w1:=Sep.inn (Q:=aaa A S) h1
 refine ⟨s,rfl,use (aDo I (t:=t) (all:=true) (Ints.row hs) (apa I.wf t) h1) ?_⟩
 rintro _ w2 ⟨rfl,h2⟩
 exact ⟨_,rfl,rfl,h2.cut⟩
def takeB (c:Option Addr) (ch:Sl) (K:Value ->World ->Prop) (again:World ->Prop) (w:World):Prop:=
  NN c fun a35=>∃ x36:Option Addr,w.cell? ((a35.add 1).add 2)=some (.pointer x36)/\Calls P ach #[(.pointer x36),(.slice ch.p ch.n ch.c),(.int
   .i64 1)] w fun e38 w37=>∃ x39:Int,∃ x40:Int,e38= .returned (.tuple #[(.int .i64 x39),(.int .i64 x40)])/\∃ J41:Int ->World ->Prop,(bif (x40==0) then (NN
   c fun a45=>∃ x46:Option Addr,w37.cell? ((a45.add 1).add 0)=some (.pointer x46)/\Calls P acG #[(.pointer x46)] w37 fun e48 w47=>∃ x49:Int,∃
   x50:Int,e48= .returned (.tuple #[(.int .i64 x49),(.int .i64 x50)])/\bif (x50==0) then (K (.tuple #[(.int .i64 x49),(.int .i64 (-1)),(.int .i64 0)]) w47) else
   (NN c fun a51=>∃ x52:Option Addr,w47.cell? ((a51.add 1).add 2)=some (.pointer x52)/\Calls P abG #[(.pointer x52),(.slice ch.p ch.n ch.c),
   (.int .i64 1)] w47 fun e54 w53=>∃ x55:Int,e54= .returned (.int .i64 x55)/\J41 0 w53)) else (J41 x39 w37))/\(∀ _u43:Nat ->Value,∀ target44:Int,∀ w42:
   World,J41 target44 w42 ->Calls P aa6 #[(.pointer c),(.int .i64 target44)] w42 fun e57 w56=>∃ x58:Bool,e57= .returned (.bool x58)/\bif x58 then
   (again w56) else (K (.tuple #[(.int .i64 (-1)),(.int .i64 target44),(.int .i64 12)]) w56))
theorem aDP {g:Int} {m:Nat} {ch:Sl} {K:Value ->World ->Prop} {again:World ->Prop} (I:Inv S) (hl:S.live g=true) (hch:ch.n=(S.chain g).length) (h:Sep E (aaa A S++rowA ch 1 (intL (S.chain g))::L) w)
  (hK:∀ w',Sep E (aaa A (take g (m+1) S).1++rowA ch 1 (intL (S.chain g))::L) w' ->K (.tuple #[.int .i64 (take g (m+1) S).2.1,.int .i64 (take g (m+1) S).2.2.1,.int .i64 (take g (m+1) S).2.2.2]) w')
  (hA:∀ S' w',Kc.Inv S' ->S'.tree=S.tree ->S'.gens.length<S.gens.length ->take g (m+1) S=take g m S' ->Sep E (aaa A S'++rowA ch 1 (intL (S.chain g))::L) w' ->again w'):
  takeB (some ⟨A.c,0,none⟩) ch K again w:=by
 have hcl:(S.chain g).length<=64:=agt I.wf _
 have hI:Ints E (rowA ch 1 (intL (S.chain g))::L) ch (S.chain g):=Ints.row hch
 refine ⟨_,rfl,ld h 0 rfl rfl rfl (use (aG6 (hI.er (A:=A) (S:=S) (q:=4) (by decide)) (by omega) 1 (h.fr 4 rfl)) ?_)⟩
 rintro _ w1 ⟨rfl,h1⟩
 have h1:=h1.put (q:=4) rfl
 have hfull:∀ (tg:Int),take g (m+1) S=(if (S.evict tg).2 then take g m (S.evict tg).1 else ((S.evict tg).1, -1,tg,12)) ->∀ w',Sep E (aaa A S++rowA ch 1 (intL (S.chain g))::L) w' ->
   Calls P aa6 #[.pointer (some ⟨A.c,0,none⟩),.int .i64 tg] w' fun e w''=>∃ x:Bool,e= .returned (.bool x)/\bif x then again w'' else K (.tuple #[.int .i64 (-1),.int .i64 tg,.int .i64 12]) w'':=by
  intro tg he w' h'
  refine use (aob I (t:=tg) h') ?_
  rintro _ w'' ⟨rfl,h''⟩
  refine ⟨_,rfl,bifI (fun hr=> ?_) (fun hr=> ?_)⟩
  ·rw [if_pos hr] at he
   have ho:Outs S (S.evict tg).1:=Outs.evictG I tg _ _
   have hk:=ho.kept I
   exact hA _ _ (I.evict tg) hk.tree (auo I hr) he h''
  ·rw [if_neg (by rw [hr];decide)] at he
   rw [he] at hK
   exact hK _ h''
 refine ⟨_,_,rfl,fun tg w'=>take g (m+1) S=(if (S.evict tg).2 then take g m (S.evict tg).1 else ((S.evict tg).1, -1,tg,12))/\Sep E (aaa A S++rowA ch 1 (intL (S.chain g))::L) w',bEq (fun e0=> ?_) (fun e0=> ?_),fun _ tg w' ⟨he,h'⟩=>hfull tg he w' h'⟩
 ·have h1:Sep E (aaa A {S with fr:= {S.fr with used:=(cTry S.fr.used (S.chain g) 1).1}} ++rowA ch 1 (intL (S.chain g))::L) w1:=h1
  refine ⟨_,rfl,ld h1 0 rfl rfl rfl (use (aDk (q:=14) rfl (h1.fr 2 rfl)) ?_)⟩
  rintro _ w2 ⟨rfl,h2⟩
  have h2:=h2.put (q:=2) rfl
  refine ⟨_,_,rfl,bEq (fun ep=> ?_) (fun ep=> ?_)⟩
  ·have et:take g (m+1) S=({S with fr:= {S.fr with pool:=(abq S.fr.pool).1,used:=(cTry S.fr.used (S.chain g) 1).1}},(abq S.fr.pool).2.1, -1,0):=by
    unfold take
    dsimp only
    rw [if_pos e0,if_pos ep]
   rw [et] at hK
   refine hK _ ?_
   have h3:Sep E ((aaa A {S with fr:= {S.fr with used:=(cTry S.fr.used (S.chain g) 1).1}} ++rowA ch 1 (intL (S.chain g))::L).set 2 (abb A.fp (abq S.fr.pool).1)) w2:=h2
   unfold aaa
   simp only
   rw [amE]
   exact h3
  ·have hpf:=(apz ep).2
   have h2:Sep E (aaa A {S with fr:= {S.fr with pool:=(abq S.fr.pool).1,used:=(cTry S.fr.used (S.chain g) 1).1}} ++rowA ch 1 (intL (S.chain g))::L) w2:=by
    have h3:Sep E ((aaa A {S with fr:= {S.fr with used:=(cTry S.fr.used (S.chain g) 1).1}} ++rowA ch 1 (intL (S.chain g))::L).set 2 (abb A.fp (abq S.fr.pool).1)) w2:=h2
    unfold aaa
    simp only
    rw [amE]
    exact h3
   rw [hpf] at h2
   refine ⟨_,rfl,ld h2 0 rfl rfl rfl (use (awl (hI.er (A:=A) (q:=4) (by decide)) (by omega) 1 (h2.fr 4 rfl)) ?_)⟩
   rintro _ w3 ⟨rfl,h3⟩
   have h3:=h3.put (q:=4) rfl
   have hb:=aEP I hl e0
   have h3:Sep E (aaa A {S with fr:= {S.fr with used:=(aaC (cTry S.fr.used (S.chain g) 1).1 (S.chain g) 1).1}} ++rowA ch 1 (intL (S.chain g))::L) w3:=h3
   rw [hb] at h3
   refine ⟨_,rfl,?_,h3⟩
   conv=>lhs;unfold take
   dsimp only
   rw [if_pos e0,if_neg ep,hb]
 ·obtain ⟨x,hx,he,_⟩:=aeO (acW I.wf hl (n:=1) ⟨by decide,by decide⟩) e0
  have h1:Sep E (aaa A {S with fr:= {S.fr with used:=(cTry S.fr.used (S.chain g) 1).1}} ++rowA ch 1 (intL (S.chain g))::L) w1:=h1
  have he:cTry S.fr.used (S.chain g) 1=(S.fr.used,x,22):=he
  have et:take g (m+1) S=(if (S.evict (cTry S.fr.used (S.chain g) 1).2.1).2 then take g m (S.evict (cTry S.fr.used (S.chain g) 1).2.1).1 else ((S.evict (cTry S.fr.used (S.chain g) 1).2.1).1, -1,(cTry S.fr.used (S.chain g) 1).2.1,12)):=by
   conv=>lhs;unfold take
   dsimp only
   rw [if_neg e0]
  refine ⟨et,?_⟩
  rw [he] at h1
  exact h1
theorem aFe {g:Int} (I:Inv S) (hl:S.live g=true) (h:Sep E (aaa A S++L) w):Calls P afF #[.pointer (some ⟨A.c,0,none⟩),.int .i64 g] w
    (Ret fun v w'=>v= .tuple #[.int .i64 (S.take g).2.1,.int .i64 (S.take g).2.2.1,.int .i64 (S.take g).2.2.2]/\Sep E (aaa A (S.take g).1++L) w'):=by
  apply atL
  generalize hK:(fun (v:Value) (w':World)=>v= .tuple #[.int .i64 (S.take g).2.1,.int .i64 (S.take g).2.2.1,.int .i64 (S.take g).2.2.2]/\Sep E (aaa A (S.take g).1++L) w')=K
  unfold alG
  let Pn:Sl ->World ->Nat ->Prop:=fun ch w' n=>∃ T m,T.gens.length=n/\Kc.Inv T/\T.tree=S.tree/\n<=m/\S.take g=take g (m+1) T/\ch.n=(S.chain g).length/\Sep E (aaa A T++rowA ch 1 (intL (S.chain g))::L) w'
  have hM:∃ M2:Sl ->World ->Nat,∀ ch w',(∃ n,Pn ch w' n) ->Pn ch w' (M2 ch w')/\∀ k,Pn ch w' k ->M2 ch w'<=k:=by
    refine ⟨fun ch w'=>Classical.epsilon fun n=>Pn ch w' n/\∀ k,Pn ch w' k ->n<=k,fun ch w' hx=> ?_⟩
    exact Classical.epsilon_spec (aIc hx)
  obtain ⟨M2,hM2⟩:=hM
  refine ⟨fun ch w'=>∃ n,Pn ch w' n,M2,⟨_,rfl,ld h 0 rfl rfl rfl (use (akg I.wf (h.fr 1 rfl)) ?_)⟩,?_⟩
  · rintro _ w1 ⟨ch,rfl,hch,h1⟩
    have h1:=h1.put1 (q:=1) rfl
    have h1:Sep E (aaa A S++rowA ch 1 (intL (S.chain g))::L) w1:=Sep.inn (Q:=aaa A S) h1
    have key:takeB (some ⟨A.c,0,none⟩) ch K (fun w'=>∃ n,Pn ch w' n) w1:=by
      refine aDP (m:=S.gens.length) I hl hch h1 (fun w' h'=>by rw [<- hK];exact ⟨rfl,h'.cut⟩) (fun T w' hT ht hg he h'=> ?_)
      cases hm:S.gens.length with
      | zero=>omega
      | succ m=>exact ⟨T.gens.length,T,m,rfl,hT,ht,by omega,by rw [hm] at he;exact (show S.take g=take g (S.gens.length+1) S from rfl).trans (by rw [hm];exact he),hch,h'⟩
    exact ⟨ch,rfl,key⟩
  · intro _ ch w3 hP
    obtain ⟨⟨T,m,hn,hT,ht,hnm,he,hch,h3⟩,hmin⟩:=hM2 ch w3 hP
    have hl':T.live g=true:=by unfold Cs.live;rw [ht];exact hl
    have hc:T.chain g=S.chain g:=by unfold Cs.chain;rw [ht]
    rw [<- hc] at h3 hch
    have key:takeB (some ⟨A.c,0,none⟩) ch K (fun w'=>(∃ n,Pn ch w' n)/\M2 ch w'<M2 ch w3) w3:=by
     refine aDP (m:=m) hT hl' hch h3 (fun w' h'=> ?_) (fun T' w' hT' ht' hg he' h'=> ?_)
     · rw [<- hK,he];exact ⟨rfl,h'.cut⟩
     · rw [hc] at h' hch
       cases hm:m with
       | zero=>omega
       | succ m'=>
         rw [hm] at he'
         have hP':Pn ch w' T'.gens.length:=⟨T',m',rfl,hT',ht'.trans ht,by omega,by rw [he,hm,he'],hch,h'⟩
         have:=(hM2 ch w' ⟨_,hP'⟩).2 _ hP'
         exact ⟨⟨_,hP'⟩,by omega⟩
    exact key
end Go.Mp
end
section
set_option maxRecDepth 100000
namespace Go.Kc
open Go Go.Kt
variable {S:Cs}
theorem aDQ (h:Inv S) {g:Int} (hl:S.live g=true):acp (S.take g).1.pages/\Good (S.take g).1.gens/\(S.take g).1.tree=S.tree:=by
 rcases Cs.take_spec h hl with ⟨S0,a,k⟩ | ⟨S0,t,k⟩
 ·have hi:=k.outs.inv h
  have hk:=k.outs.kept h
  rw [k.eq]
  exact ⟨hi.tab,hi.good,hk.tree⟩
 ·have hi:=k.outs.inv h
  have hk:=k.outs.kept h
  rw [k.eq]
  exact ⟨hi.tab,hi.good,hk.tree⟩
theorem acp.fresh {T:TS} (h:acp T):T.pg T.next=none:=by
 cases hp:T.pg T.next with
 | none=>rfl
 | some p=>have:=(h.ids _ _ hp).2;omega
end Go.Kc
namespace Go.Mp
open Go Go.Vc Go.Sp Go.Proofs Go.Kc
variable {E:Env} {L:List Asn} {w:World} {A:At} {S:Cs}
theorem aFg {g:Int} (I:Kc.Inv S) (hl:S.live g=true) (t:List UInt8) (h:Sep E (aaa A S++L) w):Calls P afG #[.pointer (some ⟨A.c,0,none⟩),.int .i64 g,strV t] w
  (Ret fun v w'=>v= .tuple #[.int .i64 (S.withT g t).2.1,.int .i64 (S.withT g t).2.2.1,.int .i64 (S.withT g t).2.2.2]/\Sep E (aaa A (S.withT g t).1++L) w'):=by
 apply atN
 refine use (aFe I hl h) ?_
 rintro _ w1 ⟨rfl,h1⟩
 obtain ⟨ht,hG,_⟩:=aDQ I hl
 refine ⟨_,_,_,rfl,bNe (fun hf=> ?_) (fun he=> ?_)⟩
 ·have e:S.withT g t=((S.take g).1, -1,(S.take g).2.2.1,(S.take g).2.2.2):=by unfold Cs.withT;dsimp only;rw [if_pos hf]
  rw [e]
  exact ⟨rfl,h1⟩
 ·have e:S.withT g t=(({(S.take g).1 with pages:=((S.take g).1.pages.make (-1) 0 g).1} :Cs).place ((S.take g).1.pages.make (-1) 0 g).2.1 (S.take g).2.1 g t false,((S.take g).1.pages.make (-1) 0 g).2.1, -1,0):=by
   unfold Cs.withT;dsimp only;rw [if_neg (by omega)]
  rw [e]
  refine ⟨_,rfl,ld h1 0 rfl rfl rfl (use (Tp.awm (-1) 0 g ht.fresh (h1.fr 11 rfl)) ?_)⟩
  rintro _ w2 ⟨rfl,h2⟩
  have h2:=h2.put (q:=11) rfl
  have h2:Sep E (aaa A {(S.take g).1 with pages:=((S.take g).1.pages.make (-1) 0 g).1} ++L) w2:=h2
  refine ⟨_,_,rfl,use (aDt _ _ g t false (by exact hG) h2) ?_⟩
  rintro _ w3 ⟨rfl,h3⟩
  exact ⟨rfl,rfl,h3⟩
theorem aFS:slQ P 121=some (1,1,[.int .u8 0]):=by kernel_rfl
theorem aEY {id g:Int} (I:Kc.Inv S) (h:Sep E (aaa A S++L) w):Calls P afC #[.pointer (some ⟨A.c,0,none⟩),.int .i64 id,.int .i64 g] w
  (Ret fun v w'=>v= .tuple #[.int .i64 (S.copy id g).2.1,.int .i64 (S.copy id g).2.2.1,.int .i64 (S.copy id g).2.2.2]/\Sep E (aaa A (S.copy id g).1++L) w'):=by
 apply atD
 refine ⟨_,rfl,ld h 0 rfl rfl rfl (use (Tp.ahW id (h.fr 11 rfl)) ?_)⟩
 rintro _ w1 ⟨rfl,h1⟩
 have h1:Sep E (aaa A S++L) w1:=h1.put (q:=11) rfl
 obtain ⟨p,hp⟩:∃ p,S.pages.get id=p:=⟨_,rfl⟩
 rw [hp]
 refine ⟨_,_,_,_,_,_,_,_,_,_,rfl,Al.i h1 (fun b w2 h2=>zst (vs:=p.1.vs) _ h2 rfl (fun w3 h3=> ?_))⟩
 have h3:Sep E (aaa A S++blk b p.1.vs::L) w3:=Sep.inn h3
 have hno:(p.2≠0\/S.live g=false\/p.1.place=0) ->S.copy id g=(S, -1, -1,2):=by
  intro hc;unfold Cs.copy;rw [hp];dsimp only;rw [if_pos hc]
 refine ⟨fun w'=>p.2=0/\S.live g=true/\p.1.place≠0/\Sep E (aaa A S++blk b p.1.vs::L) w',bNe (fun hf=> ?_) (fun he=> ?_),?_⟩
 ·rw [hno (.inl hf)];exact ⟨rfl,h3.cut⟩
 ·refine ⟨_,rfl,ld h3 0 rfl rfl rfl (use (adG h3 (q:=1) rfl) ?_)⟩
  rintro _ _ ⟨rfl,rfl⟩
  refine ⟨_,rfl,bifI (fun hd=> ?_) (fun hlv=> ?_)⟩
  ·have hd:Kt.aaf S.tree g=false:=by simpa using hd
   rw [hno (.inr (.inl hd))];exact ⟨rfl,h3.cut⟩
  ·have hlv:Kt.aaf S.tree g=true:=by simpa using hlv
   refine ld h3 16 rfl rfl rfl (bEq (fun e0=> ?_) (fun e0=>⟨by omega,hlv,e0,h3⟩))
   rw [hno (.inr (.inr e0))];exact ⟨rfl,h3.cut⟩
 ·rintro _ w4 ⟨he,hlv,hpl,h4⟩
  iterate 9 refine ld h4 16 rfl rfl rfl ?_
  refine use (awr p.1 h4) ?_
  rintro _ w5 ⟨rfl,h5⟩
  have e:S.copy id g=S.withT g (S.text p.1):=by
   unfold Cs.copy;rw [hp];dsimp only;rw [if_neg (by rw [hlv];simp [he,hpl])]
  rw [e]
  refine ⟨_,rfl,use (aFg I hlv _ h5) ?_⟩
  rintro _ w6 ⟨rfl,h6⟩
  exact ⟨_,_,_,rfl,rfl,h6.cut⟩
theorem ayR {m:Nat} {f:Int ->Option Int} {id:Int} {q:Nat} (h:Sep E L w) (hq:L[q]? =some (ajo m f)):aca P 116 (.map (some m)) (.int .i64 id) false w (.int .u64 ((f id).getD 0)):=by
 obtain ⟨hk,h1⟩:=Sep.pur.1 (h.fr q hq)
 have:=aca.i false 0 h1 rfl Tp.ahR aFU id
 simp only at this
 cases hf:f id with
 | none=>rw [hf] at this;exact this
 | some x=>rw [hf] at this;exact this
theorem aHC {m:Nat} {f:Int ->Option Int} {q:Nat} (h:Sep E L w) (hq:L[q]? =some (ajo m f)) (id:Int):0<=(f id).getD 0/\(f id).getD 0<18446744073709551616:=by
 obtain ⟨hk,_⟩:=Sep.pur.1 (h.fr q hq)
 cases hf:f id with
 | none=>exact ⟨by simp,by simp⟩
 | some x=>exact hk id x hf
theorem aGx {T:TS} {id:Int} (h:(T.get id).2=0):T.pg id=some (T.get id).1:=by
 unfold TS.get at h ⊢
 cases hp:T.pg id with
 | none=>rw [hp] at h;exact absurd h (by simp)
 | some p=>rfl
theorem axN {id g:Int} (I:Kc.Inv S) (h:Sep E (aaa A S++L) w):Calls P ad4 #[.pointer (some ⟨A.c,0,none⟩),.int .i64 id,.int .i64 g] w
  (Ret fun v w'=>v= .tuple #[.int .i64 (S.bring id g).2.1,.int .i64 (S.bring id g).2.2]/\Sep E (aaa A (S.bring id g).1++L) w'):=by
 apply arG
 refine ⟨_,rfl,ld h 0 rfl rfl rfl (use (Tp.ahW id (h.fr 11 rfl)) ?_)⟩
 rintro _ w1 ⟨rfl,h1⟩
 have h1:Sep E (aaa A S++L) w1:=h1.put (q:=11) rfl
 obtain ⟨p,hp⟩:∃ p,S.pages.get id=p:=⟨_,rfl⟩
 have hpage:p.2=0 ->S.pages.pg id=some p.1:=fun h0=>by rw [<- hp] at h0 ⊢;exact aGx h0
 rw [hp]
 refine ⟨_,_,_,_,_,_,_,_,_,_,rfl,Al.i h1 (fun b w2 h2=>zst (vs:=p.1.vs) _ h2 rfl (fun w3 h3=> ?_))⟩
 have h3:Sep E (aaa A S++blk b p.1.vs::L) w3:=Sep.inn h3
 let bad:Prop:=p.2≠0\/S.live g=false\/(p.1.place=0/\p.1.kf<0)
 refine ld h3 16 rfl rfl rfl ⟨fun o w'=>o=(if p.1.place=0 then g else p.1.owner)/\¬ bad/\p.1.place≠1/\Sep E (aaa A S++blk b p.1.vs::L) w',
  ⟨fun x w'=>(x=true↔bad)/\Sep E (aaa A S++blk b p.1.vs::L) w',bNe (fun hf=>⟨⟨fun _=> .inl hf,fun _=>rfl⟩,h3⟩) (fun he=> ?_),?_⟩,?_⟩
 ·refine ⟨_,rfl,ld h3 0 rfl rfl rfl (use (adG h3 (q:=1) rfl) ?_)⟩
  rintro _ _ ⟨rfl,rfl⟩
  refine ⟨_,rfl,bifI (fun hd=> ?_) (fun hlv=> ?_)⟩
  ·have hd:Kt.aaf S.tree g=false:=by simpa using hd
   exact ⟨⟨fun _=> .inr (.inl hd),fun _=>rfl⟩,h3⟩
  ·have hlv:Kt.aaf S.tree g=true:=by simpa using hlv
   have hlv':¬ S.live g=false:=by rw [show S.live g=true from hlv];decide
   refine ld h3 16 rfl rfl rfl (bEq (fun e0=>ld h3 16 rfl rfl rfl ⟨⟨fun hd=> .inr (.inr ⟨e0,by simpa using hd⟩),fun hd=> ?_⟩,h3⟩) (fun e0=>⟨⟨fun hd=>(by cases hd),fun hd=> ?_⟩,h3⟩))
   ·rcases hd with hd | hd | hd
    ·exact absurd he hd
    ·exact absurd hd hlv'
    ·simpa using hd.2
   ·rcases hd with hd | hd | hd
    ·exact absurd he hd
    ·exact absurd hd hlv'
    ·exact absurd hd.1 e0
 ·rintro _ x w4 ⟨hx,h4⟩
  refine bifI (fun hxt=> ?_) (fun hxf=> ?_)
  ·have hb:=hx.1 hxt
   have e:S.bring id g=(S, -1,2):=by unfold Cs.bring;rw [hp];dsimp only;rw [if_pos hb]
   rw [e];exact ⟨rfl,h4.cut⟩
  ·have hb:¬ bad:=fun hh=>by have:=hx.2 hh;rw [hxf] at this;cases this
   refine ld h4 16 rfl rfl rfl (bEq (fun e1=> ?_) (fun n1=>ld h4 16 rfl rfl rfl (bEq (fun e0=>⟨(if_pos e0).symm,hb,n1,h4⟩) (fun n0=>⟨(if_neg n0).symm,hb,n1,h4⟩))))
   refine ⟨_,rfl,ld h4 0 rfl rfl rfl (use (Gp.axO I.good id (h4.fr 9 rfl)) ?_)⟩
   rintro _ w5 ⟨rfl,h5⟩
   have h5:=h5.put (q:=9) rfl
   have h5:Sep E (aaa A {S with gens:=(abZ S.gens id).1} ++blk b p.1.vs::L) w5:=h5
   have e:S.bring id g=({S with gens:=(abZ S.gens id).1}, -1,0):=by unfold Cs.bring;rw [hp];dsimp only;rw [if_neg hb,if_pos e1]
   rw [e];exact ⟨_,rfl,rfl,h5.cut⟩
 rintro _ o w4 ⟨ho,hb,n1,h4⟩
 have hlo:S.live o=true:=by
  rw [ho]
  split
  ·cases hl:S.live g with
   | true=>rfl
   | false=>exact absurd (.inr (.inl hl)) hb
  ·have:p.2=0:=Classical.byContradiction fun hh=>hb (.inl hh)
   exact I.own id p.1 (hpage this)
 refine use (aFe I hlo h4) ?_
 rintro _ w5 ⟨rfl,h5⟩
 obtain ⟨htab,hG,htr⟩:=aDQ I hlo
 obtain ⟨T,hT⟩:∃ T,S.take o=T:=⟨_,rfl⟩
 rw [hT] at h5 htab hG htr ⊢
 have hW:Kt.WF T.1.tree:=by rw [htr];exact I.wf
 refine ⟨_,_,_,rfl,bNe (fun hf=> ?_) (fun he=> ?_)⟩
 ·have e:S.bring id g=(T.1,T.2.2.1,T.2.2.2):=by unfold Cs.bring;rw [hp];dsimp only;rw [if_neg hb,if_neg n1,<- ho,hT,if_pos hf]
  rw [e];exact ⟨rfl,h5.cut⟩
 iterate 9 refine ld h5 16 rfl rfl rfl ?_
 refine use (awr p.1 h5) ?_
 rintro _ w6 ⟨rfl,h6⟩
 obtain ⟨S2,hS2⟩:∃ S2,S2=if p.1.place=2 then {T.1 with sl:=T.1.sl.give p.1.at_ (T.1.chain o)} else T.1:=⟨_,rfl⟩
 have hg2:S2.gens=T.1.gens:=by rw [hS2];split<;>rfl
 refine ⟨_,rfl,fun w'=>Sep E (aaa A S2++blk b p.1.vs::L) w',ld h6 16 rfl rfl rfl (bEq (fun e2=> ?_) (fun n2=>by rw [hS2,if_neg n2];exact h6)),?_⟩
 ·refine Dr.i h6 (fun w7 h7=>⟨_,rfl,ld h7 0 rfl rfl rfl (ld h7 0 rfl rfl rfl (ld h7 0 rfl rfl rfl (ld h7 16 rfl rfl rfl ⟨_,rfl,ld h7 0 rfl rfl rfl (use (akg hW (h7.fr 1 rfl)) ?_)⟩)))⟩)
  rintro _ w8 ⟨ch,rfl,hch,h8⟩
  have h8:=h8.put1 (q:=1) rfl
  have h8:Sep E (aaa A T.1++rowA ch 1 (intL (T.1.chain o))::blk b p.1.vs::L) w8:=Sep.inn (Q:=aaa A T.1) h8
  refine ⟨ch,rfl,ld h8 17 rfl rfl rfl ⟨rfl,ld h8 0 rfl rfl rfl (ld h8 0 rfl rfl rfl (ld h8 0 rfl rfl rfl ⟨rfl,use (aDr p.1.at_ (Ints.row hch) (agt hW _) h8) ?_⟩))⟩⟩
  rintro _ w9 ⟨rfl,h9⟩
  rw [hS2,if_pos e2]
  exact ⟨rfl,h9.cut⟩
 intro _ w7 h7
 have e:S.bring id g=(S2.place id T.2.1 o (T.1.text p.1) (!(came S2.log ((S2.kept id).getD 0) (S2.memory o))), -1,0):=by
  rw [hS2]
  unfold Cs.bring;rw [hp];dsimp only;rw [if_neg hb,if_neg n1,<- ho,hT,if_neg (by omega)]
 rw [e]
 refine Dr.i h7 (fun w8 h8=>⟨_,rfl,ld h8 0 rfl rfl rfl ⟨_,rfl,ld h8 0 rfl rfl rfl ⟨_,ayR h8 (q:=12) rfl,use (abk o h8) ?_⟩⟩⟩)
 rintro _ w9 ⟨rfl,h9⟩
 obtain ⟨k0,k1⟩:=aHC h9 (q:=12) rfl id
 obtain ⟨X,hX⟩:∃ X:Nat,(S2.kept id).getD 0=X:=⟨((S2.kept id).getD 0).toNat,by omega⟩
 refine ⟨_,rfl,_,ayR h9 (q:=12) rfl,rfl,ld h9 0 rfl rfl rfl ⟨rfl,ld h9 0 rfl rfl rfl ⟨rfl,?_⟩⟩⟩
 rw [hX]
 refine use (aH0 (h9.fr 10 rfl) (by omega) o _) ?_
 rintro _ w10 ⟨rfl,h10⟩
 have h10:Sep E (aaa A S2++blk b p.1.vs::L) w10:=h10.put (q:=10) rfl
 refine ⟨_,rfl,use (aDt id T.2.1 o (T.1.text p.1) _ (by rw [hg2];exact hG) h10) ?_⟩
 rintro _ w11 ⟨rfl,h11⟩
 exact ⟨rfl,rfl,h11.cut⟩
end Go.Mp
end
