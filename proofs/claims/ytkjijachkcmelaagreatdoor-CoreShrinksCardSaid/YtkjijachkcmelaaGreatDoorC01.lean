/- Part of a proof about the core: of its walks and plain laws. -/
import Derived.Test.YtkjijachkcmelaaGreatDoorC00
import Derived.Deep.LoopGhost
import Derived.Deep.Quiet
import Derived.Eval
set_option linter.all false
section
namespace Go.Vc
open Go
section
variable {P:Program} {τ:TypeId ->K1} {ρ:TypeId ->Kd} {pan:FuncId ->Bool} {A:Ann}
def bef (ops:Array Oper) (i j:Nat):Bool:=(ai9 ops ops.size j).testBit i
def aaY (σ:List Nat) (i:Nat):Nat:=σ.idxOf i
def ata (o:Oper) (t:Nat):Bool:=match o.dst with | some d=>Nat.beq d t | none=>false
def aEO (ops:Array Oper) (σ:List Nat) (i j:Nat):Bool:=
 (bef ops j i&&Nat.blt (aaY σ j) (aaY σ i))||(bef ops i j&&Nat.blt (aaY σ i) (aaY σ j))
def aFQ (ops:Array Oper) (σ:List Nat):Bool:=
 (List.range ops.size).all fun i=>match ops[i]? with
  | none=>false
  | some o=>(o.looksAt ops).all fun t=>(List.range ops.size).all fun j=>match ops[j]? with
   | none=>false
   | some oj=> !ata oj t||aEO ops σ i j
def aGM (ops:Array Oper) (σ effs:List Nat):Bool:=
 effs.all fun e=>(List.range ops.size).all fun i=> !Nat.blt (aaY σ e) (aaY σ i)||bef ops e i
def aHL (ops:Array Oper):Bool:=
 (List.range ops.size).all fun i=>(List.range ops.size).all fun j=>Nat.beq i j||(match (ops[i]?).bind (·.dst),(ops[j]?).bind (·.dst) with
  | some d,some d'=> !Nat.beq d d'
  | _,_=>true)
def aGL (ops:Array Oper):Bool:=
 (List.range ops.size).all fun i=>match ops[i]? with
  | none=>false
  | some o=>o.after.toList.all fun e=> !Region.binds .any e||Nat.blt e.on i
def aHM (ops:Array Oper) (σ effs:List Nat):Bool:=
 (List.range ops.size).all fun i=>match ops[i]? with
  | none=>false
  | some o=>effs.contains i|| !adn o.op||((o.looksAt ops).all fun t=>(List.range ops.size).all fun j=>match ops[j]? with
   | none=>false
   | some oj=> !ata oj t||(bef ops j i&&Nat.blt (aaY σ j) (aaY σ i)))
def sigB (ops:Array Oper) (σ effs:List Nat):Bool:=
 Region.noSelect ops&&(List.range ops.size).all (fun i=>σ.contains i)&&σ.all (fun i=>Nat.blt i ops.size)&&(List.range σ.length).all (fun k=>Nat.beq (aaY σ (σ.getD k 0)) k)&&
 aFQ ops σ&&aGM ops σ effs&&aHL ops&&aGL ops&&aHM ops σ effs&&ops.toList.all (fun o=> !adn o.op||o.dst.isSome)
theorem aja {ops:Array Oper} {L:Nat ->Bool} (hcl:∀ j o,L j=true ->ops[j]? =some o ->∀ e∈o.after,Region.binds .any e=true ->L e.on=true):
  ∀ (f j:Nat),(∀ o,ops[j]? =some o ->∀ e∈o.after,Region.binds .any e=true ->L e.on=true) ->∀ i,(ai9 ops f j).testBit i=true ->L i=true:=by
 intro f
 induction f with
 | zero=>intro j _ i h;simp [ai9] at h
 | succ f ih=>
  intro j hj i h
  unfold ai9 aFB at h
  split at h
  ·simp at h
  ·rename_i o ho
   have key:∀ (l:List Edge) (s:Nat),(∀ e∈l,e∈o.after) ->(s.testBit i=true ->L i=true) ->
     (l.foldl (fun s e=>bif Region.binds .any e then s ||| 2 ^ e.on ||| ai9 ops f e.on else s) s).testBit i=true ->L i=true:=by
    intro l
    induction l with
    | nil=>intro s _ hs h;exact hs h
    | cons e l ihl=>
     intro s hl hs h
     rw [List.foldl_cons] at h
     refine ihl _ (fun e' he'=>hl e' (List.mem_cons_of_mem _ he')) ?_ h
     intro hb
     cases hbind:Region.binds .any e with
     | false=>rw [hbind,cond_false] at hb;exact hs hb
     | true=>
      rw [hbind,cond_true] at hb
      simp only [Nat.testBit_or,Bool.or_eq_true] at hb
      have hon:L e.on=true:=hj o ho e (hl e (List.mem_cons_self ..)) hbind
      rcases hb with (hb | hb) | hb
      ·exact hs hb
      ·rw [Nat.testBit_two_pow] at hb
       simp only [decide_eq_true_eq] at hb
       rw [<- hb];exact hon
      ·exact ih e.on (fun o' ho' e' he' hb'=>hcl e.on o' hon ho' e' he' hb') i hb
   exact key o.after.toList 0 (fun e he=>by simpa using he) (by simp) h
def Agree (ops:Array Oper) (o:Oper) (a b:Act):Prop:=∀ t∈o.looksAt ops,a.tmps[t]? =b.tmps[t]?
theorem Agree.exec {ops:Array Oper} {o:Oper} {a b:Act} (hs:∀ cs b,o.op≠ .select cs b) (h:Agree ops o a b):execOp a.eval o=execOp b.eval o:=by
 refine execOp_congr o hs fun x hx=> ?_
 cases x with
 | tmp t=>
  have:t∈o.looksAt ops:=List.mem_append_left _ (List.mem_filterMap.2 ⟨.tmp t,by simpa using hx,rfl⟩)
  have:=h t this
  simp [Act.eval,Array.getD_eq_getD_getElem?,this]
 | const v=>rfl
 | global g=>rfl
 | func f=>rfl
theorem Agree.wanted {ops:Array Oper} {o:Oper} {a b:Act} (h:Agree ops o a b):Region.wanted o (yielded ops a.tmps)=Region.wanted o (yielded ops b.tmps):=by
 unfold Region.wanted
 cases hg:o.guard with
 | none=>rfl
 | some g=>
  obtain ⟨j,want⟩:=g
  dsimp only
  have:yielded ops a.tmps j=yielded ops b.tmps j:=by
   unfold yielded
   cases hd:(ops[j]?).bind (·.dst) with
   | none=>rfl
   | some d=>
    have hm:d∈o.looksAt ops:=by
     unfold Oper.looksAt
     rw [hg]
     exact List.mem_append_right _ (by simp [hd])
    simp only [Option.bind_some,h d hm]
  rw [this]
theorem aG1 {o:Oper} {a b:Act} {w:World} {K K':Act ->World ->Prop} {Q Q':Exit ->Act ->World ->Prop} (he:execOp a.eval o=execOp b.eval o) (h:o.wp P b w K Q)
  (hk:∀ v w',K (b.put o.dst v) w' ->K' (a.put o.dst v) w') (hp:∀ ch w',Q (.panic ch) b w' ->Q' (.panic ch) a w') (ho:LetsOut Q ->LetsOut Q')
  (hdef:∀ d w',¬ K ({b with defers:=d::b.defers}.put o.dst undef) w'):o.wp P a w K' Q':=by
 unfold Oper.wp at h ⊢
 rw [he]
 generalize (execOp b.eval o).run P w=r at h
 cases r with
 | ok n w1=>
  cases n<;>first
   | exact hk _ _ h
   | exact h.elim
   | skip
  ·exact Calls.mono h fun e w' he=>by
    cases e with
    | returned v=>exact hk _ _ he
    | panicked ch=>exact hp _ _ he
    | outgrown=>exact ho he
  ·exact (hdef _ _ h).elim
  ·exact Rows.mono h fun v w' he=>hk _ _ he
 | halt x w1=>
  cases x<;>first
   | exact hp _ _ h
   | exact h.elim
structure Sig (ops:Array Oper) (σ effs:List Nat):Prop where
 nosel:Region.noSelect ops=true
 all:∀ i,i<ops.size ->i∈σ
 lt:∀ i∈σ,i<ops.size
 pos:∀ k i,σ[k]? =some i ->aaY σ i=k
 reads:∀ i o,ops[i]? =some o ->∀ t∈o.looksAt ops,∀ j oj,ops[j]? =some oj ->oj.dst=some t ->(bef ops j i=true/\aaY σ j<aaY σ i)\/(bef ops i j=true/\aaY σ i<aaY σ j)
 chain:∀ e∈effs,∀ i,i<ops.size ->aaY σ e<aaY σ i ->bef ops e i=true
 dst:∀ (i j:Nat) (oi oj:Oper) (d:Nat),ops[i]? =some oi ->ops[j]? =some oj ->oi.dst=some d ->oj.dst=some d ->i=j
 edge:∀ i o,ops[i]? =some o ->∀ e∈o.after,Region.binds .any e=true ->e.on<i
 rd:∀ (i:Nat) (o:Oper),ops[i]? =some o ->adn o.op=true ->o.dst≠none
 war:∀ i o,ops[i]? =some o ->i∉effs ->adn o.op=true ->∀ t∈o.looksAt ops,∀ j oj,ops[j]? =some oj ->oj.dst=some t ->bef ops j i=true/\aaY σ j<aaY σ i
theorem acY {ops:Array Oper} {i:Nat} {o:Oper} (h:ops[i]? =some o):i<ops.size:=by
 rcases Nat.lt_or_ge i ops.size with h' | h'
 ·exact h'
 ·simp [Array.getElem?_eq_none h'] at h
theorem aIl {ops:Array Oper} {σ effs:List Nat} (h:sigB ops σ effs=true):Sig ops σ effs:=by
 unfold sigB at h
 simp only [Bool.and_eq_true] at h
 obtain ⟨⟨⟨⟨⟨⟨⟨⟨⟨h1,h2⟩,h3⟩,h4⟩,h5⟩,h6⟩,h7⟩,h8⟩,h9⟩,h10⟩:=h
 have hall:∀ i,i<ops.size ->i∈σ:=fun i hi=>by simpa using List.all_eq_true.1 h2 i (List.mem_range.2 hi)
 have hlt:∀ i∈σ,i<ops.size:=fun i hi=>by simpa using List.all_eq_true.1 h3 i hi
 have hpos:∀ k i,σ[k]? =some i ->aaY σ i=k:=by
  intro k i hk
  have hlt:k<σ.length:=by
   rcases Nat.lt_or_ge k σ.length with h | h
   ·exact h
   ·simp [List.getElem?_eq_none h] at hk
  have:=List.all_eq_true.1 h4 k (List.mem_range.2 hlt)
  simpa [List.getD,hk] using this
 have hrd:∀ (i:Nat) (o:Oper),ops[i]? =some o ->adn o.op=true ->o.dst≠none:=by
  intro i o ho hr hn
  have hm:o∈ops.toList:=by rw [Array.mem_toList_iff];exact Array.mem_of_getElem? ho
  have:=List.all_eq_true.1 h10 o hm
  simp [hr,hn] at this
 refine ⟨h1,hall,hlt,hpos,?_,?_,?_,?_,hrd,?_⟩
 ·intro i o ho t ht j oj hoj hd
  have a:=List.all_eq_true.1 h5 i (List.mem_range.2 (acY ho))
  simp only [ho] at a
  have b:=List.all_eq_true.1 (List.all_eq_true.1 a t ht) j (List.mem_range.2 (acY hoj))
  simp only [hoj,ata,hd,aEO,Bool.or_eq_true,Bool.and_eq_true,Bool.not_eq_true'] at b
  rcases b with b | b | b
  ·simp at b
  ·exact .inl ⟨b.1,by simpa using b.2⟩
  ·exact .inr ⟨b.1,by simpa using b.2⟩
 ·intro e he i hi hp
  have a:=List.all_eq_true.1 (List.all_eq_true.1 h6 e he) i (List.mem_range.2 hi)
  simp only [Bool.or_eq_true,Bool.not_eq_true'] at a
  rcases a with a | a
  ·have:Nat.blt (aaY σ e) (aaY σ i)=true:=by simpa using hp
   rw [this] at a;cases a
  ·exact a
 ·intro i j oi oj d hi hj hdi hdj
  have a:=List.all_eq_true.1 (List.all_eq_true.1 h7 i (List.mem_range.2 (acY hi))) j (List.mem_range.2 (acY hj))
  simp only [hi,hj,Option.bind_some,hdi,hdj,Bool.or_eq_true,Bool.not_eq_true'] at a
  rcases a with a | a
  ·simpa using a
  ·simp at a
 ·intro i o ho e he hb
  have a:=List.all_eq_true.1 h8 i (List.mem_range.2 (acY ho))
  simp only [ho] at a
  have b:=List.all_eq_true.1 a e (by simpa using he)
  simp only [Bool.or_eq_true,Bool.not_eq_true',hb] at b
  rcases b with b | b
  ·cases b
  ·simpa using b
 ·intro i o ho hi hr t ht j oj hoj hd
  have a:=List.all_eq_true.1 h9 i (List.mem_range.2 (acY ho))
  simp only [ho,Bool.or_eq_true,Bool.not_eq_true'] at a
  rcases a with (a | a) | a
  ·exact absurd (by simpa using a) hi
  ·rw [hr] at a;cases a
  ·have b:=List.all_eq_true.1 (List.all_eq_true.1 a t ht) j (List.mem_range.2 (acY hoj))
   simp only [hoj,ata,hd,Bool.or_eq_true,Bool.not_eq_true',Bool.and_eq_true] at b
   rcases b with b | b
   ·simp at b
   ·exact ⟨b.1,by simpa using b.2⟩
structure AtM (ops:Array Oper) (N:Nat) (a0:Act) (M:Nat ->Prop) (val:Nat ->Value) (a:Act):Prop where
 defers:a.defers= []
 size:a.tmps.size=N
 put:∀ j o t,ops[j]? =some o ->o.dst=some t ->M j ->a.tmps[t]? =some (val j)
 old:∀ t,(∀ j o,ops[j]? =some o ->o.dst=some t ->¬ M j) ->a.tmps[t]? =a0.tmps[t]?
theorem AtM.add {ops:Array Oper} {σ effs:List Nat} (hs:Sig ops σ effs) {N:Nat} (hok:ab0 P N ops.toList=true) {a0 a:Act} {M:Nat ->Prop} {val:Nat ->Value} (h:AtM ops N a0 M val a) {i:Nat} {o:Oper} (ho:ops[i]? =some o) (hi:¬ M i) (v:Value):
  AtM ops N a0 (fun j=>M j\/j=i) (fun j=>if j=i then v else val j) (a.put o.dst v):=by
 have hmem:o∈ops.toList:=by rw [Array.mem_toList_iff];exact Array.mem_of_getElem? ho
 have hdst:=ac7 hok hmem
 refine ⟨?_,?_,?_,?_⟩
 ·cases o.dst<;>exact h.defers
 ·cases o.dst<;>simp [Act.put,h.size]
 ·intro j oj t hj hd hM
  by_cases e:j=i
  ·subst e
   rw [ho] at hj;injection hj with hj;subst hj
   rw [if_pos rfl]
   have hlt:t<a.tmps.size:=by rw [h.size];exact hdst t hd
   simp [Act.put,hd,hlt]
  ·rw [if_neg e]
   have hM':M j:=hM.resolve_right e
   rw [<- h.put j oj t hj hd hM']
   cases hdo:o.dst with
   | none=>rfl
   | some d=>
    have:d≠t:=fun e'=>e (hs.dst j i oj o t hj ho hd (by rw [hdo,e']))
    simp [Act.put,this]
 ·intro t ht
  rw [<- h.old t (fun j oj hj hd hM=>ht j oj hj hd (.inl hM))]
  cases hdo:o.dst with
  | none=>rfl
  | some d=>
   have:d≠t:=fun e'=>ht i o ho (by rw [hdo,e']) (.inr rfl)
   simp [Act.put,this]
def agR (P:Program) (ops:Array Oper) (σ:List Nat) (a0:Act) (val:Nat ->Value) (w:World) (i:Nat):Prop:=
 ∀ o,ops[i]? =some o ->∀ b:Act,(∀ t∈o.looksAt ops,(∀ j oj,ops[j]? =some oj ->oj.dst=some t ->aaY σ j<aaY σ i ->b.tmps[t]? =some (val j))/\
   ((∀ j oj,ops[j]? =some oj ->oj.dst=some t ->¬ aaY σ j<aaY σ i) ->b.tmps[t]? =a0.tmps[t]?)) ->
  (Region.wanted o (yielded ops b.tmps)=true/\∀ w',(adn o.op=true ->w'=w) ->(execOp b.eval o).run P w'= .ok (.value (val i)) w')\/
  (Region.wanted o (yielded ops b.tmps)=false/\val i=undef)
theorem aEj {σ p rest:List Nat} {i:Nat} (h:σ=p++i::rest):σ[p.length]? =some i:=by
 subst h;simp
theorem Sig.lt_iff {ops:Array Oper} {σ effs:List Nat} (hs:Sig ops σ effs) {p rest:List Nat} {i:Nat} (h:σ=p++i::rest) (j:Nat) (hj:j<ops.size):aaY σ j<aaY σ i↔j∈p:=by
 have hi:aaY σ i=p.length:=hs.pos _ _ (aEj h)
 rw [hi]
 constructor
 ·intro hlt
  obtain ⟨k,hk,hkj⟩:=List.getElem_of_mem (hs.all j hj)
  have hk':σ[k]? =some j:=by rw [List.getElem?_eq_getElem hk,hkj]
  rw [hs.pos k j hk'] at hlt
  subst h
  rw [List.getElem?_append_left hlt] at hk'
  exact List.mem_of_getElem? hk'
 ·intro hmem
  obtain ⟨k,hk,hkj⟩:=List.getElem_of_mem hmem
  have hk':σ[k]? =some j:=by subst h;rw [List.getElem?_append_left hk,List.getElem?_eq_getElem hk,hkj]
  rw [hs.pos k j hk'];exact hk
theorem aAI {ops:Array Oper} {σ effs:List Nat} (hs:Sig ops σ effs) {N:Nat} {a0 aT b:Act} {p rest:List Nat} {val:Nat ->Value} {i:Nat} {o:Oper} (_ho:ops[i]? =some o) (hσ:σ=p++i::rest)
  (hT:AtM ops N a0 (· ∈p) val aT)
  (hb:∀ t∈o.looksAt ops,(∀ j oj,ops[j]? =some oj ->oj.dst=some t ->aaY σ j<aaY σ i ->b.tmps[t]? =some (val j))/\
   ((∀ j oj,ops[j]? =some oj ->oj.dst=some t ->¬ aaY σ j<aaY σ i) ->b.tmps[t]? =a0.tmps[t]?)):Agree ops o b aT:=by
 intro t ht
 obtain ⟨h1,h2⟩:=hb t ht
 by_cases hw:∃ j oj,ops[j]? =some oj/\oj.dst=some t/\aaY σ j<aaY σ i
 ·obtain ⟨j,oj,hj,hd,hlt⟩:=hw
  rw [h1 j oj hj hd hlt,hT.put j oj t hj hd ((hs.lt_iff hσ j (acY hj)).1 hlt)]
 ·rw [h2 (fun j oj hj hd hlt=>hw ⟨j,oj,hj,hd,hlt⟩),hT.old t (fun j oj hj hd hm=>hw ⟨j,oj,hj,hd,(hs.lt_iff hσ j (acY hj)).2 hm⟩)]
structure St0 (P:Program) (ops:Array Oper) (σ effs:List Nat) (N:Nat) (a0:Act) (p:List Nat) (L:Nat ->Bool) (val:Nat ->Value) (a aT:Act) (T:Tr) (w:World) (done:List Nat):Prop where
 sub:∀ j,L j=true ->j∈p
 effd:∀ e∈effs,e∈p ->L e=true
 closed:∀ j o,L j=true ->ops[j]? =some o ->∀ e∈o.after,Region.binds .any e=true ->L e.on=true
 at_:AtM ops N a0 (fun j=>L j=true) val a
 all:AtM ops N a0 (· ∈p) val aT
 rel:Rel N T aT
 floats:∀ i∈p,L i=false ->agR P ops σ a0 val w i
 done_:∀ i∈p,i∉effs ->(∀ o,ops[i]? =some o ->adn o.op=true ->i∈done\/∀ w',agR P ops σ a0 val w' i)
theorem agR.ext {ops:Array Oper} {σ effs:List Nat} (hs:Sig ops σ effs) {a0:Act} {val val':Nat ->Value} {w:World} {p rest:List Nat} {k:Nat} (hσ:σ=p++k::rest) {i:Nat} (hi:i∈p) (hv:∀ j∈p,val' j=val j)
  (h:agR P ops σ a0 val w i):agR P ops σ a0 val' w i:=by
 intro o ho b hb
 have hlt:aaY σ i<aaY σ k:=(hs.lt_iff hσ i (acY ho)).2 hi
 have:=h o ho b (fun t ht=>⟨fun j oj hj hd hp=>by
  rw [<- hv j ((hs.lt_iff hσ j (acY hj)).1 (Nat.lt_trans hp hlt))]
  exact (hb t ht).1 j oj hj hd hp,(hb t ht).2⟩)
 rw [hv i hi]
 exact this
theorem awW {ops:Array Oper} {σ effs:List Nat} (hs:Sig ops σ effs) {N:Nat} {a0 aT:Act} {p rest:List Nat} {val:Nat ->Value} {w:World}
  {i:Nat} {o:Oper} (ho:ops[i]? =some o) (hσ:σ=p++i::rest) (hall:AtM ops N a0 (· ∈p) val aT) {v:Value}
  (hv:(Region.wanted o (yielded ops aT.tmps)=true/\∀ w',(adn o.op=true ->w'=w) ->(execOp aT.eval o).run P w'= .ok (.value v) w')\/(Region.wanted o (yielded ops aT.tmps)=false/\v=undef)):
  agR P ops σ a0 (fun j=>if j=i then v else val j) w i:=by
 intro o' ho' b hb
 rw [ho] at ho';injection ho' with ho';subst ho'
 have hag:Agree ops o b aT:=aAI hs ho hσ hall (fun t ht=>⟨fun j oj hj hd hp=>by
  have h1:=(hb t ht).1 j oj hj hd hp
  have hji:j≠i:=fun e=>Nat.lt_irrefl _ (e ▸ hp)
  simpa only [if_neg hji] using h1,(hb t ht).2⟩)
 have hns:∀ cs b,o.op≠ .select cs b:=fun cs b=>Region.noSelect_spec hs.nosel i o cs b ho
 rw [hag.wanted,hag.exec hns]
 simpa only [if_true] using hv
theorem St0.read {ops:Array Oper} {σ effs:List Nat} (hs:Sig ops σ effs) {N:Nat} (hN:N<=8000) (hok:ab0 P N ops.toList=true) {a0:Act} {p rest:List Nat} {L:Nat ->Bool} {val:Nat ->Value} {a aT:Act} {T:Tr} {w:World} {done:List Nat}
  {i:Nat} {o:Oper} (ho:ops[i]? =some o) (hσ:σ=p++i::rest) (hie:i∉effs) (h:St0 P ops σ effs N a0 p L val a aT T w done) {v:Value} {T':Tr} (hT':∀ t,T'.get t=T.get t)
  (hv:(Region.wanted o (yielded ops aT.tmps)=true/\∀ w',(adn o.op=true ->w'=w) ->(execOp aT.eval o).run P w'= .ok (.value v) w')\/(Region.wanted o (yielded ops aT.tmps)=false/\v=undef))
  {done':List Nat} (hd':∀ j∈done,j∈done') (hdi:adn o.op=true ->i∈done'\/(Region.wanted o (yielded ops aT.tmps)=false/\v=undef)):
  St0 P ops σ effs N a0 (p++ [i]) L (fun j=>if j=i then v else val j) a (aT.put o.dst v) (T'.put o.dst v) w done':=by
 have hip:i∉p:=fun hm=>by
  have:=(hs.lt_iff hσ i (acY ho)).2 hm
  exact Nat.lt_irrefl _ this
 have hmem:o∈ops.toList:=by rw [Array.mem_toList_iff];exact Array.mem_of_getElem? ho
 have hL:L i=false:=by
  cases hLi:L i with
  | false=>rfl
  | true=>exact (hip (h.sub i hLi)).elim
 have hval:∀ j∈p,(if j=i then v else val j)=val j:=fun j hj=>by
  have:j≠i:=fun e=>hip (e ▸ hj)
  rw [if_neg this]
 refine ⟨fun j hj=>List.mem_append_left _ (h.sub j hj),?_,h.closed,?_,?_,(h.rel.same hT').put hN (ac7 hok hmem) v,?_,?_⟩
 ·intro e he hep
  rcases List.mem_append.1 hep with hep | hep
  ·exact h.effd e he hep
  ·simp only [List.mem_singleton] at hep;subst hep;exact (hie he).elim
 ·refine ⟨h.at_.defers,h.at_.size,fun j oj t hj hd hLj=> ?_,h.at_.old⟩
  have hji:j≠i:=fun e=>by subst e;rw [hL] at hLj;cases hLj
  rw [if_neg hji];exact h.at_.put j oj t hj hd hLj
 ·have:=AtM.add hs hok h.all ho hip v
  refine ⟨this.defers,this.size,fun j oj t hj hd hm=>this.put j oj t hj hd ?_,fun t ht=>this.old t (fun j oj hj hd hm=>ht j oj hj hd ?_)⟩
  ·rcases List.mem_append.1 hm with hm | hm
   ·exact .inl hm
   ·exact .inr (by simpa using hm)
  ·rcases hm with hm | hm
   ·exact List.mem_append_left _ hm
   ·exact List.mem_append_right _ (by simp [hm])
 ·intro k hk hLk
  rcases List.mem_append.1 hk with hk | hk
  ·exact agR.ext hs hσ hk hval (h.floats k hk hLk)
  ·simp only [List.mem_singleton] at hk
   subst hk
   exact awW hs ho hσ h.all hv
 ·intro k hk hke o' ho' hr
  rcases List.mem_append.1 hk with hk | hk
  ·rcases h.done_ k hk hke o' ho' hr with h1 | h1
   ·exact .inl (hd' _ h1)
   ·exact .inr (fun w'=>agR.ext hs hσ hk hval (h1 w'))
  ·simp only [List.mem_singleton] at hk
   subst hk
   rw [ho] at ho';injection ho' with ho';subst ho'
   rcases hdi hr with h1 | h1
   ·exact .inl h1
   ·exact .inr (fun w'=>awW hs ho hσ h.all (.inr h1))
theorem St0.reads {ops:Array Oper} {σ effs:List Nat} (hs:Sig ops σ effs) {N:Nat} (hN:N<=8000) (hok:ab0 P N ops.toList=true) {a0:Act} {L:Nat ->Bool} {a:Act} {Q:Exit ->Tr ->World ->Prop} {w:World} {B:Prop} :
  ∀ (rest p:List Nat) (val:Nat ->Value) (aT:Act) (T:Tr) (done:List Nat),σ=p++rest ->St0 P ops σ effs N a0 p L val a aT T w done ->vSig P τ ρ pan A ops effs Q rest done T w ->
   (∀ (rest' p':List Nat) (val':Nat ->Value) (aT':Act) (T':Tr) (done':List Nat),σ=p'++rest' ->(∀ i∈rest'.head?,i∈effs) ->St0 P ops σ effs N a0 p' L val' a aT' T' w done' ->vSig P τ ρ pan A ops effs Q rest' done' T' w ->B) ->B
 | [],p,val,aT,T,done,hσ,h,hv,hB=>hB [] p val aT T done hσ (by simp) h hv
 | i::rest,p,val,aT,T,done,hσ,h,hv,hB=>by
  by_cases hie:i∈effs
  ·exact hB (i::rest) p val aT T done hσ (by simpa using hie) h hv
  ·have hi:i<ops.size:=hs.lt i (by rw [hσ];simp)
   have ho:ops[i]? =some ops[i]:=Array.getElem?_eq_getElem hi
   generalize ops[i]=o at ho
   have hmem:o∈ops.toList:=by rw [Array.mem_toList_iff];exact Array.mem_of_getElem? ho
   unfold vSig at hv
   simp only [ho] at hv
   have hc:effs.contains i=false:=by simpa using hie
   rw [hc,cond_false] at hv
   refine afw (B:=B) hN hok h.rel hv ?_ ?_
   ·intro T1 hT1 hy hw
    rw [<- (h.rel.same hT1).ev] at hy
    obtain ⟨v,h1,h2⟩:=asK (aeI hok hmem) hy
    have:=h.read hs hN hok ho hσ hie hT1 (v:=v) (.inl ⟨hw,fun w' hw'=>h1 w' (fun hr=>by rw [hw' hr];exact .refl w)⟩)
     (done':=bif adn o.op then i::done else done) (fun j hj=>by cases adn o.op<;>simp [hj]) (fun hr=> .inl (by rw [hr];simp))
    exact St0.reads hs hN hok rest (p++ [i]) _ _ _ _ (by rw [hσ];simp) this h2 hB
   ·intro T1 hT1 hn hw
    have:=h.read hs hN hok ho hσ hie hT1 (v:=undef) (.inr ⟨hw,rfl⟩) (done':=done) (fun j hj=>hj) (fun _=> .inr ⟨hw,rfl⟩)
    exact St0.reads hs hN hok rest (p++ [i]) _ _ _ _ (by rw [hσ];simp) this hn hB
theorem St0.looks {ops:Array Oper} {σ effs:List Nat} (hs:Sig ops σ effs) {N:Nat} {a0:Act} {p:List Nat} {L:Nat ->Bool} {val:Nat ->Value} {a aT:Act} {T:Tr} {w:World} {done:List Nat}
  (h:St0 P ops σ effs N a0 p L val a aT T w done) {i:Nat} {o:Oper} (ho:ops[i]? =some o) (hi:L i=false) (hpre:∀ e∈o.after,Region.binds .any e=true ->L e.on=true):
  ∀ t∈o.looksAt ops,(∀ j oj,ops[j]? =some oj ->oj.dst=some t ->aaY σ j<aaY σ i ->a.tmps[t]? =some (val j))/\
   ((∀ j oj,ops[j]? =some oj ->oj.dst=some t ->¬ aaY σ j<aaY σ i) ->a.tmps[t]? =a0.tmps[t]?):=by
 intro t ht
 have hbef:∀ j,bef ops j i=true ->L j=true:=fun j hj=>
  aja (L:=L) h.closed ops.size i (fun o' ho'=>by rw [ho] at ho';injection ho' with ho';subst ho';exact hpre) j hj
 constructor
 ·intro j oj hj hd hp
  rcases hs.reads i o ho t ht j oj hj hd with ⟨h1,_⟩ | ⟨_,h2⟩
  ·exact h.at_.put j oj t hj hd (hbef j h1)
  ·exact absurd hp (Nat.lt_asymm h2)
 ·intro hno
  refine h.at_.old t (fun j oj hj hd hL=> ?_)
  rcases hs.reads i o ho t ht j oj hj hd with ⟨_,h2⟩ | ⟨h1,_⟩
  ·exact hno j oj hj hd h2
  ·have:=aja (L:=L) h.closed ops.size j (fun o' ho' e he hb=>h.closed j o' hL ho' e he hb) i h1
   rw [hi] at this;cases this
theorem ayy {ops:Array Oper} {N:Nat} (hN:N<=8000) (hok:ab0 P N ops.toList=true) {T:Tr} {aT:Act} {w:World} {next:Prop} (hr:Rel N T aT):∀ (l:List Nat),vRe P τ ρ ops T w next l ->
  next/\∀ j∈l,∀ o,ops[j]? =some o ->(Region.wanted o (yielded ops aT.tmps)=true/\∃ v,(∀ w',(adn o.op=true ->Grow w w') ->(execOp aT.eval o).run P w'= .ok (.value v) w')/\∀ d,o.dst=some d ->v=T.get d)\/Region.wanted o (yielded ops aT.tmps)=false
 | [],h=>⟨h,fun _ h=>by cases h⟩
 | j::l,h=>by
  unfold vRe at h
  split at h
  ·exact h.elim
  ·rename_i o ho
   have hmem:o∈ops.toList:=by rw [Array.mem_toList_iff];exact Array.mem_of_getElem? ho
   refine afw (B:=next/\∀ k∈j::l,∀ o,ops[k]? =some o ->(Region.wanted o (yielded ops aT.tmps)=true/\∃ v,(∀ w',(adn o.op=true ->Grow w w') ->(execOp aT.eval o).run P w'= .ok (.value v) w')/\∀ d,o.dst=some d ->v=T.get d)\/Region.wanted o (yielded ops aT.tmps)=false) hN hok hr h ?_ ?_
   ·intro T1 hT1 hy hw
    rw [<- (hr.same hT1).ev] at hy
    obtain ⟨v,h1,h2,h3⟩:=asK (aeI hok hmem) hy
    obtain ⟨hn,hrest⟩:=ayy hN hok (hr.same hT1) l h3
    refine ⟨hn,fun k hk o' ho'=> ?_⟩
    rcases List.mem_cons.1 hk with hk | hk
    ·subst hk
     rw [ho] at ho';injection ho' with ho';subst ho'
     refine .inl ⟨hw,v,h1,fun d hd=> ?_⟩
     rw [hd] at h2
     exact h2.trans (hT1 d)
    ·rcases hrest k hk o' ho' with ⟨h4,v',h5,h6⟩ | h4
     ·exact .inl ⟨h4,v',h5,fun d hd=>(h6 d hd).trans (hT1 d)⟩
     ·exact .inr h4
   ·intro T1 hT1 hn hw
    obtain ⟨hn',hrest⟩:=ayy hN hok (hr.same hT1) l hn
    refine ⟨hn',fun k hk o' ho'=> ?_⟩
    rcases List.mem_cons.1 hk with hk | hk
    ·subst hk
     rw [ho] at ho';injection ho' with ho';subst ho'
     exact .inr hw
    ·rcases hrest k hk o' ho' with ⟨h4,v',h5,h6⟩ | h4
     ·exact .inl ⟨h4,v',h5,fun d hd=>(h6 d hd).trans (hT1 d)⟩
     ·exact .inr h4
theorem St0.effect {ops:Array Oper} {σ effs:List Nat} (hs:Sig ops σ effs) {N:Nat} (hN:N<=8000) (hok:ab0 P N ops.toList=true) {a0:Act} {p rest:List Nat} {L:Nat ->Bool} {val:Nat ->Value} {a aT:Act} {T T1:Tr} {w w':World} {done:List Nat}
  {i:Nat} {o:Oper} (ho:ops[i]? =some o) (hσ:σ=p++i::rest) (hie:i∈effs) (h:St0 P ops σ effs N a0 p L val a aT T w done) (hT1:∀ t,T1.get t=T.get t) (hpre:∀ e∈o.after,Region.binds .any e=true ->L e.on=true) (v:Value)
  (hre:(w'=w)\/∀ j∈done.filter (fun j=> !(ai9 ops ops.size i).testBit j),∀ oj,ops[j]? =some oj ->
   (Region.wanted oj (yielded ops (aT.put o.dst v).tmps)=true/\∃ u,(∀ w2,(adn oj.op=true ->Grow w' w2) ->(execOp (aT.put o.dst v).eval oj).run P w2= .ok (.value u) w2)/\∀ d,oj.dst=some d ->u=(T1.put o.dst v).get d)\/Region.wanted oj (yielded ops (aT.put o.dst v).tmps)=false)
  (hdst:∀ (j:Nat) (oj:Oper),ops[j]? =some oj ->adn oj.op=true ->oj.dst≠none):
  St0 P ops σ effs N a0 (p++ [i]) (fun j=>L j||Nat.beq j i) (fun j=>if j=i then v else val j) (a.put o.dst v) (aT.put o.dst v) (T1.put o.dst v) w' done:=by
 have hip:i∉p:=fun hm=>Nat.lt_irrefl _ ((hs.lt_iff hσ i (acY ho)).2 hm)
 have hmem:o∈ops.toList:=by rw [Array.mem_toList_iff];exact Array.mem_of_getElem? ho
 have hL:L i=false:=by
  cases hLi:L i with
  | false=>rfl
  | true=>exact (hip (h.sub i hLi)).elim
 have hval:∀ j∈p,(if j=i then v else val j)=val j:=fun j hj=>by
  have:j≠i:=fun e=>hip (e ▸ hj)
  rw [if_neg this]
 have hall':AtM ops N a0 (· ∈p++ [i]) (fun j=>if j=i then v else val j) (aT.put o.dst v):=by
  have:=AtM.add hs hok h.all ho hip v
  refine ⟨this.defers,this.size,fun j oj t hj hd hm=>this.put j oj t hj hd ?_,fun t ht=>this.old t (fun j oj hj hd hm=>ht j oj hj hd ?_)⟩
  ·rcases List.mem_append.1 hm with hm | hm
   ·exact .inl hm
   ·exact .inr (by simpa using hm)
  ·rcases hm with hm | hm
   ·exact List.mem_append_left _ hm
   ·exact List.mem_append_right _ (by simp [hm])
 have hrel':Rel N (T1.put o.dst v) (aT.put o.dst v):=(h.rel.same hT1).put hN (ac7 hok hmem) v
 refine ⟨?_,?_,?_,?_,hall',hrel',?_,?_⟩
 ·intro j hj
  simp only [Bool.or_eq_true] at hj
  rcases hj with hj | hj
  ·exact List.mem_append_left _ (h.sub j hj)
  ·exact List.mem_append_right _ (by simpa using hj)
 ·intro e he hep
  rcases List.mem_append.1 hep with hep | hep
  ·simp [h.effd e he hep]
  ·simp only [List.mem_singleton] at hep;subst hep;simp
 ·intro j oj hj hoj e he hb
  simp only [Bool.or_eq_true] at hj ⊢
  rcases hj with hj | hj
  ·exact .inl (h.closed j oj hj hoj e he hb)
  ·have:j=i:=by simpa using hj
   subst this
   rw [ho] at hoj;injection hoj with hoj;subst hoj
   exact .inl (hpre e he hb)
 ·have:=AtM.add hs hok h.at_ ho (by rw [hL];simp) v
  refine ⟨this.defers,this.size,fun j oj t hj hd hm=>this.put j oj t hj hd ?_,fun t ht=>this.old t (fun j oj hj hd hm=>ht j oj hj hd ?_)⟩
  ·simp only [Bool.or_eq_true] at hm
   rcases hm with hm | hm
   ·exact .inl hm
   ·exact .inr (by simpa using hm)
  ·simp only [Bool.or_eq_true]
   rcases hm with hm | hm
   ·exact .inl hm
   ·exact .inr (by simp [hm])
 ·intro k hk hLk
  simp only [Bool.or_eq_false_iff] at hLk
  have hki:k≠i:=fun e=>by subst e;rw [adF] at hLk;simp at hLk
  have hkp:k∈p:=by
   rcases List.mem_append.1 hk with hk | hk
   ·exact hk
   ·exact (hki (by simpa using hk)).elim
  have hold:=agR.ext hs hσ hkp hval (h.floats k hkp hLk.1)
  rcases hre with rfl | hre
  ·exact hold
  ·intro ok hok' b hb
   have hko:=hok'
   have hke:k∉effs:=fun he=>by have:=h.effd k he hkp;rw [hLk.1] at this;cases this
   cases hrd:adn ok.op with
   | false=>
    rcases hold ok hok' b hb with ⟨h1,h2⟩ | h1
    ·exact .inl ⟨h1,fun w2 _=>h2 w2 (fun e=>by rw [hrd] at e;cases e)⟩
    ·exact .inr h1
   | true=>
    have hwar:=hs.war k ok hok' hke hrd
    have hplt:aaY σ k<aaY σ i:=(hs.lt_iff hσ k (acY hok')).2 hkp
    have hbT:∀ t∈ok.looksAt ops,(∀ j oj,ops[j]? =some oj ->oj.dst=some t ->aaY σ j<aaY σ k ->(aT.put o.dst v).tmps[t]? =some ((fun j=>if j=i then v else val j) j))/\
      ((∀ j oj,ops[j]? =some oj ->oj.dst=some t ->¬ aaY σ j<aaY σ k) ->(aT.put o.dst v).tmps[t]? =a0.tmps[t]?):=by
     intro t ht
     refine ⟨fun j oj hj hd hp=>hall'.put j oj t hj hd (List.mem_append_left _ ((hs.lt_iff hσ j (acY hj)).1 (Nat.lt_trans hp hplt))),fun hno=>hall'.old t (fun j oj hj hd _=>hno j oj hj hd (hwar t ht j oj hj hd).2)⟩
    have hag:Agree ops ok b (aT.put o.dst v):=by
     intro t ht
     by_cases hw:∃ j oj,ops[j]? =some oj/\oj.dst=some t/\aaY σ j<aaY σ k
     ·obtain ⟨j,oj,hj,hd,hlt⟩:=hw
      rw [(hb t ht).1 j oj hj hd hlt,(hbT t ht).1 j oj hj hd hlt]
     ·have hno:∀ j oj,ops[j]? =some oj ->oj.dst=some t ->¬ aaY σ j<aaY σ k:=fun j oj hj hd hlt=>hw ⟨j,oj,hj,hd,hlt⟩
      rw [(hb t ht).2 hno,(hbT t ht).2 hno]
    have hns:∀ cs b,ok.op≠ .select cs b:=fun cs b=>Region.noSelect_spec hs.nosel k ok cs b hok'
    rw [hag.wanted,hag.exec hns]
    rcases hold ok hok' (aT.put o.dst v) hbT with ⟨h1,_⟩ | h1
    ·have hkd:k∈done\/∀ w2,agR P ops σ a0 val w2 k:=h.done_ k hkp hke ok hok' hrd
     rcases hkd with hkd | hkd
     ·have hnb:(ai9 ops ops.size i).testBit k=false:=by
       cases hb':(ai9 ops ops.size i).testBit k with
       | false=>rfl
       | true=>
        have:=aja (L:=L) h.closed ops.size i (fun o' ho'=>by rw [ho] at ho';injection ho' with ho';subst ho';exact hpre) k hb'
        rw [hLk.1] at this;cases this
      rcases hre k (List.mem_filter.2 ⟨hkd,by rw [hnb];rfl⟩) ok hok' with ⟨_,u,h2,h3⟩ | h2
      ·refine .inl ⟨h1,fun w2 hw2=> ?_⟩
       cases hd:ok.dst with
       | none=>exact (hdst k ok hok' hrd hd).elim
       | some d=>
        have e1:=h3 d hd
        have e2:(T1.put o.dst v).get d=(if k=i then v else val k):=by
         have e3:=hall'.put k ok d hok' hd (List.mem_append_left _ hkp)
         have e4:=hrel'.get d
         simp only [Array.getD_eq_getD_getElem?,e3,Option.getD_some] at e4
         exact e4.symm
        rw [h2 w2 (fun _=>by rw [hw2 rfl];exact .refl _),e1,e2]
      ·rw [h1] at h2;cases h2
     ·rcases agR.ext hs hσ hkp hval (hkd w') ok hok' (aT.put o.dst v) hbT with h2 | h2
      ·exact .inl ⟨h2.1,fun w2 hw2=>h2.2 w2 (fun _=>hw2 rfl)⟩
      ·exact .inr h2
    ·exact .inr h1
 ·intro k hk hke ok hok' hr
  rcases List.mem_append.1 hk with hk | hk
  ·rcases h.done_ k hk hke ok hok' hr with h1 | h1
   ·exact .inl h1
   ·exact .inr (fun w2=>agR.ext hs hσ hk hval (h1 w2))
  ·simp only [List.mem_singleton] at hk
   subst hk
   exact (hke hie).elim
theorem St0.floatDone {ops:Array Oper} {σ effs:List Nat} (hs:Sig ops σ effs) {N:Nat} (hok:ab0 P N ops.toList=true) {a0:Act} {p:List Nat} {L:Nat ->Bool} {val:Nat ->Value} {a aT:Act} {T:Tr} {w:World} {done:List Nat}
  {i:Nat} {o:Oper} (ho:ops[i]? =some o) (hip:i∈p) (hi:L i=false) (h:St0 P ops σ effs N a0 p L val a aT T w done) (hpre:∀ e∈o.after,Region.binds .any e=true ->L e.on=true):
  St0 P ops σ effs N a0 p (fun j=>L j||Nat.beq j i) val (a.put o.dst (val i)) aT T w done:=by
 refine ⟨?_,?_,?_,?_,h.all,h.rel,?_,h.done_⟩
 ·intro j hj
  simp only [Bool.or_eq_true] at hj
  rcases hj with hj | hj
  ·exact h.sub j hj
  ·have:j=i:=by simpa using hj
   subst this;exact hip
 ·intro e he hep;simp [h.effd e he hep]
 ·intro j oj hj hoj e he hb
  simp only [Bool.or_eq_true] at hj ⊢
  rcases hj with hj | hj
  ·exact .inl (h.closed j oj hj hoj e he hb)
  ·have:j=i:=by simpa using hj
   subst this
   rw [ho] at hoj;injection hoj with hoj;subst hoj
   exact .inl (hpre e he hb)
 ·have:=AtM.add hs hok h.at_ ho (by rw [hi];simp) (val i)
  refine ⟨this.defers,this.size,fun j oj t hj hd hm=> ?_,fun t ht=>this.old t (fun j oj hj hd hm=>ht j oj hj hd ?_)⟩
  ·have h1:=this.put j oj t hj hd (by
    simp only [Bool.or_eq_true] at hm
    rcases hm with hm | hm
    ·exact .inl hm
    ·exact .inr (by simpa using hm))
   by_cases e:j=i
   ·subst e;simpa using h1
   ·simpa only [if_neg e] using h1
  ·simp only [Bool.or_eq_true]
   rcases hm with hm | hm
   ·exact .inl hm
   ·exact .inr (by simp [hm])
 ·intro k hk hLk
  simp only [Bool.or_eq_false_iff] at hLk
  exact h.floats k hk hLk.1
def unl (n:Nat) (listed:Array Bool):Nat:=(List.range n).countP fun i=> !listed.getD i true
theorem ayL {p q:Nat ->Bool} :∀ (l:List Nat),(∀ x∈l,q x=true ->p x=true) ->(∃ x∈l,p x=true/\q x=false) ->l.countP q<l.countP p
 | [],_,⟨_,h,_⟩=>by cases h
 | x::l,hq,⟨y,hy,hpy,hqy⟩=>by
  have hle:l.countP q<=l.countP p:=by
   have:∀ (l:List Nat),(∀ x∈l,q x=true ->p x=true) ->l.countP q<=l.countP p:=by
    intro l
    induction l with
    | nil=>intro _;simp
    | cons z l ih=>
     intro h
     have h1:=ih (fun x hx=>h x (List.mem_cons_of_mem _ hx))
     have h2:=h z (List.mem_cons_self ..)
     simp only [List.countP_cons]
     cases hqz:q z with
     | false=>simp;omega
     | true=>simp [h2 hqz];omega
   exact this l (fun x hx=>hq x (List.mem_cons_of_mem _ hx))
  simp only [List.countP_cons]
  rcases List.mem_cons.1 hy with e | hy
  ·subst e;simp [hpy,hqy];omega
  ·have ih:=ayL l (fun x hx=>hq x (List.mem_cons_of_mem _ hx)) ⟨y,hy,hpy,hqy⟩
   have h2:=hq x (List.mem_cons_self ..)
   cases hqx:q x with
   | false=>simp;omega
   | true=>simp [h2 hqx];omega
theorem mem_ready {ops:Array Oper} {listed:Array Bool} {i:Nat} (h:i∈Region.ready .any ops listed):
  ∃ o,ops[i]? =some o/\listed.getD i true=false/\∀ e∈o.after,Region.binds .any e=true ->listed.getD e.on false=true:=by
 unfold Region.ready at h
 obtain ⟨hi,hc⟩:=List.mem_filter.1 h
 have hi:=List.mem_range.1 hi
 rw [Array.getElem?_eq_getElem hi] at hc
 simp only [Bool.and_eq_true,Bool.not_eq_true',Option.map_some,Option.getD_some] at hc
 refine ⟨ops[i],Array.getElem?_eq_getElem hi,hc.1,fun e he hb=> ?_⟩
 have:=Array.all_eq_true'.1 hc.2 e he
 simpa [hb] using this
theorem aFK {ops:Array Oper} {listed:Array Bool} {i:Nat} {o:Oper} (ho:ops[i]? =some o) (hl:listed.getD i true=false) (h:∀ e∈o.after,Region.binds .any e=true ->listed.getD e.on false=true):
  i∈Region.ready .any ops listed:=by
 unfold Region.ready
 refine List.mem_filter.2 ⟨List.mem_range.2 (acY ho),?_⟩
 simp only [ho,Option.map_some,Option.getD_some,Bool.and_eq_true,Bool.not_eq_true']
 refine ⟨hl,Array.all_eq_true'.2 fun e he=> ?_⟩
 cases hb:Region.binds .any e with
 | false=>simp
 | true=>simp [h e he hb]
theorem aGh {ops:Array Oper} {σ effs:List Nat} (hs:Sig ops σ effs) {listed:Array Bool} (hsz:listed.size=ops.size) (h:Region.ready .any ops listed= []):∀ i,i<ops.size ->listed.getD i false=true:=by
 intro i
 induction i using Nat.strongRecOn with
 | _ i ih=>
  intro hi
  cases hl:listed.getD i false with
  | true=>rfl
  | false=>
   have ho:ops[i]? =some ops[i]:=Array.getElem?_eq_getElem hi
   have hl':listed.getD i true=false:=by
    have:i<listed.size:=by rw [hsz];exact hi
    simp only [Array.getD,this,dif_pos] at hl ⊢
    exact hl
   have:=aFK ho hl' (fun e he hb=>ih e.on (hs.edge i _ ho e he hb) (Nat.lt_trans (hs.edge i _ ho e he hb) hi))
   rw [h] at this
   cases this
theorem aGu {listed:Array Bool} {n i j:Nat} (hsz:listed.size=n) (hi:i<n):(listed.setIfInBounds i true).getD j false=(listed.getD j false||Nat.beq j i):=by
 simp only [Array.getD_eq_getD_getElem?,Array.getElem?_setIfInBounds]
 by_cases e:i=j
 ·subst e
  have:i<listed.size:=by rw [hsz];exact hi
  simp [this]
 ·rw [if_neg e]
  have:Nat.beq j i=false:=by rw [adF];simpa using fun h=>e h.symm
  rw [this,Bool.or_false]
theorem aBr {a:Act} :∀ (l:List Nat) (T:Tr),(∀ d∈l,d<8000) ->∃ T':Tr,(∀ t,t∉l ->T'.get t=T.get t)/\∀ t∈l,T'.get t=a.tmps.getD t undef
 | [],T,_=>⟨T,fun _ _=>rfl,fun _ h=>by cases h⟩
 | d::l,T,hd=>by
  obtain ⟨T1,h1,h2⟩:=aBr (a:=a) l T (fun x hx=>hd x (List.mem_cons_of_mem _ hx))
  refine ⟨T1.put (some d) (a.tmps.getD d undef),fun t ht=> ?_,fun t ht=> ?_⟩
  ·rw [Tr.get_put _ _ _ _ (hd d (by simp)),if_neg (fun e=>ht (by rw [e];simp))]
   exact h1 t (fun hh=>ht (List.mem_cons_of_mem _ hh))
  ·rw [Tr.get_put _ _ _ _ (hd d (by simp))]
   by_cases e:t=d
   ·rw [if_pos e,e]
   ·rw [if_neg e]
    rcases List.mem_cons.1 ht with h | h
    ·exact absurd h e
    ·exact h2 t h
theorem aHI {ops:Array Oper} {N:Nat} (hN:N<=8000) (hok:ab0 P N ops.toList=true) {a0 a:Act} {T0:Tr} (hr0:Rel N T0 a0) {M:Nat ->Prop} {val:Nat ->Value} (h:AtM ops N a0 M val a):∃ T',Fr (aaU ops.toList) T0 T'/\Rel N T' a:=by
 obtain ⟨T',h1,h2⟩:=aBr (a:=a) (aaU ops.toList) T0 (fun d hd=>by
  unfold aaU at hd
  obtain ⟨o,ho,he⟩:=List.mem_filterMap.1 hd
  exact Nat.lt_of_lt_of_le (ac7 hok ho d he) hN)
 refine ⟨T',h1,h.defers,h.size,fun t=> ?_⟩
 by_cases ht:t∈aaU ops.toList
 ·exact (h2 t ht).symm
 ·rw [h1 t ht,<- hr0.get t]
  have:=h.old t (fun j o ho hd=>absurd (by
   unfold aaU
   exact List.mem_filterMap.2 ⟨o,by rw [Array.mem_toList_iff];exact Array.mem_of_getElem? ho,hd⟩) ht)
  rw [Array.getD_eq_getD_getElem?,Array.getD_eq_getD_getElem?,this]
theorem aGZ {ops:Array Oper} {σ effs:List Nat} (hs:Sig ops σ effs) {N:Nat} (hN:N<=8000) (hok:ab0 P N ops.toList=true) {a0:Act} {T0:Tr} (hr0:Rel N T0 a0) {Q:Exit ->Tr ->World ->Prop} {Q':Exit ->Act ->World ->Prop}
  (hq:∀ T w a,Q .normal T w ->Fr (aaU ops.toList) T0 T ->Rel N T a ->Q' .normal a w) (hqp:∀ ch T w a,Q (.panic ch) T w ->Fr (aaU ops.toList) T0 T ->Rel N T a ->Q' (.panic ch) a w):
  ∀ (fuel:Nat) (listed:Array Bool) (p rest:List Nat) (val:Nat ->Value) (a aT:Act) (T:Tr) (w:World) (done:List Nat),listed.size=ops.size ->unl ops.size listed<=fuel ->σ=p++rest ->(∀ i∈rest.head?,i∈effs) ->
   St0 P ops σ effs N a0 p (fun j=>listed.getD j false) val a aT T w done ->vSig P τ ρ pan A ops effs Q rest done T w ->wpAny P .any ops Q' fuel listed a w:=by
 have fin:∀ (listed:Array Bool) (p rest:List Nat) (val:Nat ->Value) (a aT:Act) (T:Tr) (w:World) (done:List Nat),(∀ i,i<ops.size ->listed.getD i false=true) ->σ=p++rest ->(∀ i∈rest.head?,i∈effs) ->
   St0 P ops σ effs N a0 p (fun j=>listed.getD j false) val a aT T w done ->vSig P τ ρ pan A ops effs Q rest done T w ->Q' .normal a w:=by
  intro listed p rest val a aT T w done hl hσ hhead h hv
  have hrest:rest= []:=by
   cases rest with
   | nil=>rfl
   | cons e r=>
    have he:e<ops.size:=hs.lt e (by rw [hσ];simp)
    have hep:e∈p:=h.sub e (hl e he)
    exact (Nat.lt_irrefl _ ((hs.lt_iff hσ e he).2 hep)).elim
  subst hrest
  have hp:∀ j,j<ops.size ->j∈p:=fun j hj=>h.sub j (hl j hj)
  have hag:∀ t:Nat,a.tmps[t]? =aT.tmps[t]? :=by
   intro t
   by_cases hw:∃ (j:Nat) (oj:Oper),ops[j]? =some oj/\oj.dst=some t
   ·obtain ⟨j,oj,hj,hd⟩:=hw
    rw [h.at_.put j oj t hj hd (hl j (acY hj)),h.all.put j oj t hj hd (hp j (acY hj))]
   ·rw [h.at_.old t (fun j oj hj hd _=>hw ⟨j,oj,hj,hd⟩),h.all.old t (fun j oj hj hd _=>hw ⟨j,oj,hj,hd⟩)]
  refine hq T w a hv ?_ ⟨h.at_.defers,h.at_.size,fun t=> ?_⟩
  ·intro t ht
   have hno:∀ (j:Nat) (oj:Oper),ops[j]? =some oj ->oj.dst=some t ->¬ j∈p:=fun j oj hj hd _=>
    ht (List.mem_filterMap.2 ⟨oj,by rw [Array.mem_toList_iff];exact Array.mem_of_getElem? hj,hd⟩)
   rw [<- h.rel.get t,<- hr0.get t]
   simp only [Array.getD_eq_getD_getElem?,h.all.old t hno]
  ·rw [<- h.rel.get t]
   simp only [Array.getD_eq_getD_getElem?,hag t]
 intro fuel
 induction fuel with
 | zero=>
  intro listed p rest val a aT T w done hsz hu hσ hhead h hv
  have hl:∀ i,i<ops.size ->listed.getD i false=true:=by
   intro i hi
   have h0:unl ops.size listed=0:=by omega
   have:=List.countP_eq_zero.1 h0 i (List.mem_range.2 hi)
   have hlt:i<listed.size:=by rw [hsz];exact hi
   simp only [Array.getD,hlt,dif_pos] at this ⊢
   simpa using this
  refine ⟨?_,fin listed p rest val a aT T w done hl hσ hhead h hv⟩
  rw [List.eq_nil_iff_forall_not_mem]
  intro i hi
  obtain ⟨o,ho,hl',_⟩:=mem_ready hi
  have:=hl i (acY ho)
  have hlt:i<listed.size:=by rw [hsz];exact acY ho
  simp only [Array.getD,hlt,dif_pos] at this hl'
  rw [this] at hl';cases hl'
 | succ fuel ih=>
  intro listed p rest val a aT T w done hsz hu hσ hhead h hv
  refine ⟨fun hr=>fin listed p rest val a aT T w done (aGh hs hsz hr) hσ hhead h hv,fun i hi=> ?_⟩
  obtain ⟨o,ho,hl',hpre⟩:=mem_ready hi
  have hin:=acY ho
  have hlt:i<listed.size:=by rw [hsz];exact hin
  have hLi:listed.getD i false=false:=by
   simp only [Array.getD,hlt,dif_pos] at hl' ⊢;exact hl'
  have hsz':(listed.setIfInBounds i true).size=ops.size:=by simp [hsz]
  have hu':unl ops.size (listed.setIfInBounds i true)<=fuel:=by
   have:unl ops.size (listed.setIfInBounds i true)<unl ops.size listed:=by
    refine ayL _ (fun x _ hx=> ?_) ⟨i,List.mem_range.2 hin,by simp [hl'],?_⟩
    ·simp only [Bool.not_eq_true',Array.getD_eq_getD_getElem?,Array.getElem?_setIfInBounds] at hx ⊢
     by_cases e:i=x
     ·subst e;simp [hlt] at hx
     ·rw [if_neg e] at hx;exact hx
    ·simp [Array.getD,hlt]
   omega
  have hL':(fun j=>(listed.setIfInBounds i true).getD j false)=fun j=>listed.getD j false||Nat.beq j i:=funext fun j=>aGu hsz hin
  have hlooks:=h.looks hs ho hLi hpre
  unfold wpOp
  simp only [ho]
  by_cases hip:i∈p
  ·have hnext:wpAny P .any ops Q' fuel (listed.setIfInBounds i true) (a.put o.dst (val i)) w:=by
    refine ih _ p rest val _ aT T w done hsz' hu' hσ hhead ?_ hv
    rw [hL']
    exact St0.floatDone hs hok ho hip hLi h hpre
   rcases h.floats i hip hLi o ho a hlooks with ⟨h1,h2⟩ | ⟨h1,h2⟩
   ·rw [h1,if_pos rfl]
    refine .inl ?_
    unfold Oper.wp
    rw [h2 w (fun _=>rfl)]
    exact hnext
   ·rw [h1,if_neg (by decide),<- h2]
    exact hnext
  ·
   cases rest with
   | nil=>
    have:=hs.all i hin
    rw [hσ,List.append_nil] at this
    exact (hip this).elim
   | cons e rest=>
    have hee:e∈effs:=hhead e rfl
    have hie:i=e:=by
     rcases Nat.decEq i e with hne | heq
     ·exfalso
      have hen:e<ops.size:=hs.lt e (by rw [hσ];simp)
      have hep:e∉p:=fun hm=>Nat.lt_irrefl _ ((hs.lt_iff hσ e hen).2 hm)
      have hpe:aaY σ e<aaY σ i:=by
       have h1:¬ aaY σ i<aaY σ e:=fun hlt=>hip ((hs.lt_iff hσ i hin).1 hlt)
       rcases Nat.lt_trichotomy (aaY σ e) (aaY σ i) with h2 | h2 | h2
       ·exact h2
       ·obtain ⟨k,hk,hkj⟩:=List.getElem_of_mem (hs.all i hin)
        obtain ⟨k2,hk2,hkj2⟩:=List.getElem_of_mem (hs.all e hen)
        have e1:=hs.pos k i (by rw [List.getElem?_eq_getElem hk,hkj])
        have e2:=hs.pos k2 e (by rw [List.getElem?_eq_getElem hk2,hkj2])
        have:k=k2:=by rw [<- e1,<- e2,h2]
        subst this
        exact (hne (hkj.symm.trans hkj2)).elim
       ·exact (h1 h2).elim
      have hbe:=hs.chain e hee i hin hpe
      have:=aja (L:=fun j=>listed.getD j false) h.closed ops.size i (fun o' ho'=>by rw [ho] at ho';injection ho' with ho';subst ho';exact hpre) e hbe
      exact hep (h.sub e this)
     ·exact heq
    subst hie
    have hmem:o∈ops.toList:=by rw [Array.mem_toList_iff];exact Array.mem_of_getElem? ho
    have hns:∀ cs b,o.op≠ .select cs b:=fun cs b=>Region.noSelect_spec hs.nosel i o cs b ho
    have hag:Agree ops o a aT:=aAI hs ho hσ h.all hlooks
    unfold vSig at hv
    simp only [ho] at hv
    have hc:effs.contains i=true:=by simpa using hee
    rw [hc,cond_true] at hv
    have hσ':σ=(p++ [i])++rest:=by rw [hσ];simp
    rw [hag.wanted]
    refine afw (B:=if Region.wanted o (yielded ops aT.tmps)=true then o.wp P a w (wpAny P .any ops Q' fuel (listed.setIfInBounds i true)) Q'\/(o.asks P a w/\LetsOut Q') else wpAny P .any ops Q' fuel (listed.setIfInBounds i true) (a.put o.dst undef) w) hN hok h.rel hv ?_ ?_
    ·intro T1 hT1 hy hw
     rw [hw,if_pos rfl]
     refine .inl ?_
     have hrel1:=h.rel.same hT1
     have hwp:o.wp P aT w (fun b w'=>∃ v,b=aT.put o.dst v/\vRe P τ ρ ops (T1.put o.dst v) w' (vSig P τ ρ pan A ops effs Q rest done (T1.put o.dst v) w') (done.filter fun j=> !(ai9 ops ops.size i).testBit j)) (fun e _ w'=>vPan Q e T1 w'):=
      as8 hrel1 (aeI hok hmem) hy (fun v w' hn=>⟨v,rfl,hn⟩) (fun ch w' hn=>hn)
     refine aG1 (hag.exec hns) hwp ?_ (fun ch w' hp=>let ⟨T',f',r'⟩:=aHI hN hok hr0 h.at_;hqp ch T' w' a (hp T') f' r') (fun ⟨_,_,h⟩=>(h:False).elim) ?_
     ·rintro v w' ⟨v',hv',hn⟩
      have hput:a.put o.dst v=a.put o.dst v':=by
       cases hd:o.dst with
       | none=>rfl
       | some d=>
        rw [hd] at hv'
        have hdN:=ac7 hok hmem d hd
        have e1:(aT.put (some d) v).tmps[d]? =some v:=by simp [Act.put,h.all.size,hdN]
        have e2:(aT.put (some d) v').tmps[d]? =some v':=by simp [Act.put,h.all.size,hdN]
        rw [hv',e2] at e1
        injection e1 with e1
        rw [e1]
      rw [hput]
      have hrel':Rel N (T1.put o.dst v') (aT.put o.dst v'):=hrel1.put hN (ac7 hok hmem) v'
      obtain ⟨hsig,hre⟩:=ayy hN hok hrel' _ hn
      have hst:=h.effect hs hN hok ho hσ hee hT1 hpre v' (w':=w') (.inr hre) hs.rd
      rw [<- hL'] at hst
      exact St0.reads hs hN hok rest (p++ [i]) _ _ _ _ hσ' hst hsig (fun rest' p' val' aT' T' done' h1 h2 h3 h4=>ih _ p' rest' val' _ aT' T' w' done' hsz' hu' h1 h2 h3 h4)
     ·rintro d w' ⟨v,he,_⟩
      have:=congrArg Act.defers he
      cases hd:o.dst<;>simp [Act.put,hd] at this
    ·intro T1 hT1 hn hw
     rw [hw,if_neg (by decide)]
     have hst:=h.effect hs hN hok ho hσ hee hT1 hpre undef (w':=w) (.inl rfl) hs.rd
     rw [<- hL'] at hst
     exact St0.reads hs hN hok rest (p++ [i]) _ _ _ _ hσ' hst hn (fun rest' p' val' aT' T' done' h1 h2 h3 h4=>ih _ p' rest' val' _ aT' T' w done' hsz' hu' h1 h2 h3 h4)
theorem aAt {ops:Array Oper} {σ effs:List Nat} {id:Nat} (hm:P.follows .mixedOrders=true) {N:Nat} (hN:N<=8000) (hok:ab0 P N ops.toList=true) (hB:sigB ops σ effs=true) {Q:Exit ->Tr ->World ->Prop} {Q':Exit ->Act ->World ->Prop}
  {T:Tr} {a:Act} {w:World} (hr:Rel N T a) (h:vSig P τ ρ pan A ops effs Q σ [] T w.drew) (hq:∀ T' w' a',Q .normal T' w' ->Fr (aaU ops.toList) T T' ->Rel N T' a' ->Q' .normal a' w') (hqp:∀ ch T' w' a',Q (.panic ch) T' w' ->Fr (aaU ops.toList) T T' ->Rel N T' a' ->Q' (.panic ch) a' w'):(Code.region id ops true).wp P Q' a w:=by
 have hs:=aIl hB
 refine wp_region_any hm ?_
 have hL0:(fun j=>(Array.replicate ops.size false).getD j false)=fun _=>false:=by
  funext j
  simp only [Array.getD_eq_getD_getElem?,Array.getElem?_replicate]
  split<;>rfl
 have hst:St0 P ops σ effs N a [] (fun j=>(Array.replicate ops.size false).getD j false) (fun _=>undef) a a T w.drew []:=by
  rw [hL0]
  have h0:∀ t:Nat,a.tmps[t]? =a.tmps[t]? :=fun _=>rfl
  refine ⟨fun _ h=>(by cases h),fun _ _ h=>(by cases h),fun _ _ h=>(by cases h),⟨hr.defers,hr.size,fun _ _ _ _ _ h=>(by cases h),fun t _=>h0 t⟩,⟨hr.defers,hr.size,fun _ _ _ _ _ h=>(by cases h),fun t _=>h0 t⟩,hr,fun _ h=>(by cases h),fun _ h=>(by cases h)⟩
 refine St0.reads hs hN hok σ [] _ _ _ _ rfl hst h (fun rest' p' val' aT' T' done' h1 h2 h3 h4=> ?_)
 refine aGZ hs hN hok hr (fun T2 w2 a2 h5 h6 h7=>hq T2 w2 a2 h5 h6 h7) hqp ops.size _ p' rest' val' a aT' T' w.drew done' (by simp) ?_ h1 h2 h3 h4
 unfold unl
 exact Nat.le_trans List.countP_le_length (by simp)
def adm (P:Program) (N:Nat) (A:Ann):Code ->Bool
 | .region id ops draw=>ab0 P N ops.toList&&(!draw||(match A.sig id with | some (σ,effs)=>sigB ops σ effs | none=>bif A.fork id then true else bif A.calm id then Region.lexB .any ops else bif A.head id==ops.size then Region.lexB .any ops else Region.lexTailB .any ops (A.head id)))
 | .seq x y=>adm P N A x&&adm P N A y&&(match arB A y with | some ks=>okW x&&okSB ks | none=>true)
 | .cond _ x y=>adm P N A x&&adm P N A y
 | .block _ c=>adm P N A c
 | .loop c=>adm P N A c&&okW c&&okSB (A.loop ((acg c).getD 0))
 | .scope c=>adm P N A c&&okW c&&(match asY c with | some l=>(match A.goto l with | some ks=>okSB ks | none=>true) | none=>true)
 | _=>true
theorem apK {N:Nat} (hN:N<=8000) {ops:Array Oper} (hops:ab0 P N ops.toList=true) {Q:Exit ->Tr ->World ->Prop} {Q':Exit ->Act ->World ->Prop} :∀ (l:List Oper) (T:Tr) (a:Act) (w:World),ab0 P N l=true ->Rel N T a ->
  vOps P τ ρ pan A ops Q l T w ->(∀ e T' w' a',Q e T' w' ->Fr (aaU l) T T' ->Rel N T' a' ->Q' e a' w') ->wpList P ops Q' l a w
 | [],T,a,w,_,hr,h,hq=>hq _ _ _ _ h (.refl _ _) hr
 | o::l,T,a,w,hok,hr,h,hq=>by
  have hok':=al3 hok
  have hc:=aeI hok (List.mem_cons_self (a:=o) (l:=l))
  have hdst:=ac7 hok (List.mem_cons_self (a:=o) (l:=l))
  have hsub:∀ t,t∈aaU l ->t∈aaU (o::l):=fun t ht=>by
   unfold aaU at ht ⊢;rw [List.filterMap_cons];split<;>simp_all
  have hmem:∀ t,o.dst=some t ->t∈aaU (o::l)/\t<8000:=fun t ht=>⟨by simp [aaU,ht],Nat.lt_of_lt_of_le (hdst t ht) hN⟩
  refine afw (B:=wpList P ops Q' (o::l) a w) hN hops hr h ?_ ?_
  ·intro T' hs hy hw
   unfold wpList
   rw [hw,if_pos rfl]
   have hr':=hr.same hs
   have hfr:Fr (aaU (o::l)) T T':=fun t _=>hs t
   refine .inl (as8 hr' hc hy (fun v w' h'=> ?_) (fun ch w' hch=>hq _ _ _ _ hch hfr hr'))
   exact apK hN hops l _ _ _ hok' (hr'.put hN hdst v) h' (fun e T2 w2 a2 he hf hr2=>hq e T2 w2 a2 he ((hfr.trans (Fr.put _ _ _ _ hmem)).trans (hf.mono hsub)) hr2)
  ·intro T' hs hn hw
   unfold wpList
   rw [hw,if_neg (by decide)]
   have hr':=hr.same hs
   have hfr:Fr (aaU (o::l)) T T':=fun t _=>hs t
   exact apK hN hops l _ _ _ hok' (hr'.put hN hdst undef) hn (fun e T2 w2 a2 he hf hr2=>hq e T2 w2 a2 he ((hfr.trans (Fr.put _ _ _ _ hmem)).trans (hf.mono hsub)) hr2)
theorem aoI {N:Nat} (hN:N<=8000) {ops:Array Oper} (hops:ab0 P N ops.toList=true) {w:World} {Q:Tr ->Prop} {Q':Act ->Prop} :∀ (l:List Oper) (T:Tr) (a:Act),ab0 P N l=true ->Rel N T a ->vQs P τ ρ ops w Q l T ->
  (∀ T' a',Q T' ->Fr (aaU l) T T' ->Rel N T' a' ->Q' a') ->wpStill P ops w Q' l a
 | [],T,a,_,hr,h,hq=>hq _ _ h (.refl _ _) hr
 | o::l,T,a,hok,hr,h,hq=>by
  have hok':=al3 hok
  have hc:=aeI hok (List.mem_cons_self (a:=o) (l:=l))
  have hdst:=ac7 hok (List.mem_cons_self (a:=o) (l:=l))
  have hsub:∀ t,t∈aaU l ->t∈aaU (o::l):=fun t ht=>by
   unfold aaU at ht ⊢;rw [List.filterMap_cons];split<;>simp_all
  have hmem:∀ t,o.dst=some t ->t∈aaU (o::l)/\t<8000:=fun t ht=>⟨by simp [aaU,ht],Nat.lt_of_lt_of_le (hdst t ht) hN⟩
  refine afw (B:=wpStill P ops w Q' (o::l) a) hN hops hr h ?_ ?_
  ·intro T' hs hy hw
   unfold wpStill
   rw [hw,if_pos rfl]
   have hr':=hr.same hs
   have hfr:Fr (aaU (o::l)) T T':=fun t _=>hs t
   rw [<- hr'.ev] at hy
   obtain ⟨v,h1,h2⟩:=asK hc hy
   unfold Oper.still
   rw [h1 w (fun _=> .refl w)]
   exact ⟨rfl,aoI hN hops l _ _ hok' (hr'.put hN hdst v) h2 (fun T2 a2 he hf hr2=>hq T2 a2 he ((hfr.trans (Fr.put _ _ _ _ hmem)).trans (hf.mono hsub)) hr2)⟩
  ·intro T' hs hn hw
   unfold wpStill
   rw [hw,if_neg (by decide)]
   have hr':=hr.same hs
   have hfr:Fr (aaU (o::l)) T T':=fun t _=>hs t
   exact aoI hN hops l _ _ hok' (hr'.put hN hdst undef) hn (fun T2 a2 he hf hr2=>hq T2 a2 he ((hfr.trans (Fr.put _ _ _ _ hmem)).trans (hf.mono hsub)) hr2)
theorem aHP {o:Oper} {a:Act} {w:World} {f:Value ->Prop} (hc:∀ s d x,o.op= .convert s d x ->(P.underlying s).isSome=true) (h:vQC P τ ρ o a.eval w f):
  ∃ v,(∀ w',Grow w w' ->o.quietAt P a (Grow w) w' v)/\f v:=by
 unfold vQC at h
 split at h
 ·rename_i g args ts ho
  unfold aF8 at h
  split at h
  ·rename_i g' fi ca hg
   split at h
   ·rename_i hb
    obtain ⟨v,h1,h2⟩:=Kd.ex_some h
    refine ⟨v,fun w' hg'=> ?_,h2⟩
    unfold aju at hb
    split at hb
    ·rename_i fn hfn
     simp only [Bool.and_eq_true,Bool.not_eq_true',beq_eq_false_iff_ne] at hb
     obtain ⟨hb1,hb2⟩:=hb
     have hr:(execOp a.eval o).run P w'= .ok (.enter g' (fi++args.map a.eval++ca)) w':=by
      have hnone:¬ fn.body=none:=by intro hx;simp [hx] at hb1
      simp [execOp,ho,resolve,hg,Deferred.ofValue,invoke,callFunc,hfn,hb2,hnone]
     unfold Oper.quietAt
     rw [hr]
     exact ⟨rfl,(h1 w' hg').mono fun e w2 he=>⟨he.1,hg'.trans he.2⟩⟩
    ·cases hb
   ·exact h.elim
  ·exact h.elim
 ·obtain ⟨v,h1,h2⟩:=asK hc h
  refine ⟨v,fun w' hg'=> ?_,h2⟩
  unfold Oper.quietAt
  rw [h1 w' (fun _=>hg')]
  exact ⟨rfl,rfl⟩
theorem av3 {N:Nat} (hN:N<=8000) {ops:Array Oper} (hops:ab0 P N ops.toList=true) {w:World} {Q:Tr ->Prop} {Q':Act ->Prop} :∀ (l:List Oper) (T:Tr) (a:Act),ab0 P N l=true ->Rel N T a ->vQCs P τ ρ ops w Q l T ->
  (∀ T' a',Q T' ->Fr (aaU l) T T' ->Rel N T' a' ->Q' a') ->wpQuiet P ops (Grow w) Q' l a
 | [],T,a,_,hr,h,hq=>hq _ _ h (.refl _ _) hr
 | o::l,T,a,hok,hr,h,hq=>by
  have hok':=al3 hok
  have hc:=aeI hok (List.mem_cons_self (a:=o) (l:=l))
  have hdst:=ac7 hok (List.mem_cons_self (a:=o) (l:=l))
  have hsub:∀ t,t∈aaU l ->t∈aaU (o::l):=fun t ht=>by
   unfold aaU at ht ⊢;rw [List.filterMap_cons];split<;>simp_all
  have hmem:∀ t,o.dst=some t ->t∈aaU (o::l)/\t<8000:=fun t ht=>⟨by simp [aaU,ht],Nat.lt_of_lt_of_le (hdst t ht) hN⟩
  refine afw (B:=wpQuiet P ops (Grow w) Q' (o::l) a) hN hops hr h ?_ ?_
  ·intro T' hs hy hw
   unfold wpQuiet
   rw [hw,if_pos rfl]
   have hr':=hr.same hs
   have hfr:Fr (aaU (o::l)) T T':=fun t _=>hs t
   rw [<- hr'.ev] at hy
   obtain ⟨v,h1,h2⟩:=aHP hc hy
   exact ⟨v,h1,av3 hN hops l _ _ hok' (hr'.put hN hdst v) h2 (fun T2 a2 he hf hr2=>hq T2 a2 he ((hfr.trans (Fr.put _ _ _ _ hmem)).trans (hf.mono hsub)) hr2)⟩
  ·intro T' hs hn hw
   unfold wpQuiet
   rw [hw,if_neg (by decide)]
   have hr':=hr.same hs
   have hfr:Fr (aaU (o::l)) T T':=fun t _=>hs t
   exact av3 hN hops l _ _ hok' (hr'.put hN hdst undef) hn (fun T2 a2 he hf hr2=>hq T2 a2 he ((hfr.trans (Fr.put _ _ _ _ hmem)).trans (hf.mono hsub)) hr2)
theorem asI {f:Nat ->Prop} :∀ {l:List Nat},axB f l ->∀ i∈l,f i
 | [],_,_,h=>by cases h
 | _::_,h,i,hi=>by
  rcases List.mem_cons.1 hi with rfl | hi
  ·exact h.1
  ·exact asI h.2 i hi
theorem av0 {N:Nat} (hN:N<=8000) {ops:Array Oper} (hops:ab0 P N ops.toList=true) {Q:Exit ->Tr ->World ->Prop} {Q':Exit ->Act ->World ->Prop} {T0:Tr} (hq:∀ e T' w' a',Q e T' w' ->Fr (aaU ops.toList) T0 T' ->Rel N T' a' ->Q' e a' w'):
  ∀ (fuel:Nat) (listed:Array Bool) (T:Tr) (a:Act) (w:World),Fr (aaU ops.toList) T0 T ->Rel N T a ->vAny P τ ρ pan A ops Q fuel listed T w ->wpAny P .any ops Q' fuel listed a w
 | 0,listed,T,a,w,hf,hr,h=>by
  unfold vAny at h
  unfold wpAny
  split at h
  ·next e=>exact ⟨e,hq _ _ _ _ h hf hr⟩
  ·exact h.elim
 | fuel+1,listed,T,a,w,hf,hr,h=>by
  unfold vAny at h
  unfold wpAny
  split at h
  ·next e=>
   refine ⟨fun _=>hq _ _ _ _ h hf hr,fun i hi=> ?_⟩
   rw [e] at hi;cases hi
  ·next i0 l0 e=>
   refine ⟨fun e2=>(by rw [e] at e2;cases e2),fun i hi=> ?_⟩
   rw [e] at hi
   have hv:=asI h i hi
   unfold wpOp
   cases ho:ops[i]? with
   | none=>simp only [ho] at hv
   | some o=>
    simp only [ho] at hv
    have hmo:o∈ops.toList:=by
     have:=Array.mem_of_getElem? ho
     simpa using this
    have hc:=aeI hops hmo
    have hdst:=ac7 hops hmo
    have hmem:∀ t,o.dst=some t ->t∈aaU ops.toList/\t<8000:=fun t ht=>⟨by unfold aaU;exact List.mem_filterMap.2 ⟨o,hmo,ht⟩,Nat.lt_of_lt_of_le (hdst t ht) hN⟩
    refine afw (B:=if Region.wanted o (yielded ops a.tmps) then o.wp P a w (wpAny P .any ops Q' fuel (listed.setIfInBounds i true)) Q'\/(o.asks P a w/\LetsOut Q') else wpAny P .any ops Q' fuel (listed.setIfInBounds i true) (a.put o.dst undef) w) hN hops hr hv ?_ ?_
    ·intro T' hs hy hw
     rw [hw,if_pos rfl]
     have hr':=hr.same hs
     have hf':Fr (aaU ops.toList) T0 T':=hf.trans (fun t _=>hs t)
     refine .inl (as8 hr' hc hy (fun v w' h'=> ?_) (fun ch w' hch=>hq _ _ _ _ hch hf' hr'))
     exact av0 hN hops hq fuel _ _ _ _ (hf'.trans (Fr.put _ _ _ _ hmem)) (hr'.put hN hdst v) h'
    ·intro T' hs hn hw
     rw [hw,if_neg (by decide)]
     have hr':=hr.same hs
     have hf':Fr (aaU ops.toList) T0 T':=hf.trans (fun t _=>hs t)
     exact av0 hN hops hq fuel _ _ _ _ (hf'.trans (Fr.put _ _ _ _ hmem)) (hr'.put hN hdst undef) hn
theorem aDe (hm:P.follows .mixedOrders=true) {N:Nat} (hN:N<=8000) {id:Nat} {ops:Array Oper} {draw:Bool} {Q:Exit ->Tr ->World ->Prop} {Q':Exit ->Act ->World ->Prop} {T:Tr} {a:Act} {w:World}
  (hok:adm P N A (.region id ops draw)=true) (hr:Rel N T a) (h:aoJ P τ ρ pan A id ops draw Q T w) (hq:∀ e T' w' a',Q e T' w' ->Fr (aaU ops.toList) T T' ->Rel N T' a' ->Q' e a' w'):
  (Code.region id ops draw).wp P Q' a w:=by
 unfold adm at hok
 simp only [Bool.and_eq_true] at hok
 obtain ⟨ho,hd⟩:=hok
 unfold aoJ at h
 cases draw with
 | false=>exact wp_region_list (apK hN ho _ _ _ _ ho hr h hq)
 | true=>
  simp only [Bool.not_true,Bool.false_or] at hd
  dsimp only at h
  split at h
  ·rename_i σ effs hsig
   rw [hsig] at hd
   exact aAt hm hN ho hd hr h (fun T' w' a' h1 h2 h3=>hq _ _ _ _ h1 h2 h3) (fun ch T' w' a' h1 h2 h3=>hq _ _ _ _ h1 h2 h3)
  rename_i hsig
  rw [hsig] at hd
  dsimp only at hd
  cases hfork:A.fork id with
  | true=>
   rw [hfork,cond_true] at h
   refine wp_region_any hm ?_
   exact av0 hN ho (fun e T' w' a' h1 h2 h3=>hq e T' w' a' h1 h2 h3) _ _ _ _ _ (Fr.refl _ _) hr h
  | false=>
  rw [hfork,cond_false] at h hd
  cases hcalm:A.calm id with
  | true=>
   rw [hcalm,cond_true] at hd
   rw [hcalm,cond_true] at h
   refine wp_region_quiet (C:=Grow w) hm hd (Grow.drew w) ?_
   exact av3 hN ho _ _ _ ho hr h (fun T' a' hd' hf hr' w' hw'=>hq _ _ _ _ (hd' w' hw') hf hr')
  | false=>
  rw [hcalm,cond_false] at hd
  rw [hcalm,cond_false] at h
  unfold Dr at h
  have hsplit:ops.toList=ops.toList.take (A.head id)++ops.toList.drop (A.head id):=(List.take_append_drop _ _).symm
  have hof:∀ {l l':List Oper},ab0 P N (l++l')=true ->ab0 P N l=true/\ab0 P N l'=true:=by
   intro l l' h;unfold ab0 at h ⊢;rw [List.all_append,Bool.and_eq_true] at h;exact h
  have ho':=ho
  rw [hsplit] at ho'
  obtain ⟨ho1,ho2⟩:=hof ho'
  have hw:aaU ops.toList=aaU (ops.toList.take (A.head id))++aaU (ops.toList.drop (A.head id)):=by
   unfold aaU;rw [<- List.filterMap_append,<- hsplit]
  cases hall:A.head id==ops.size with
  | true=>
   rw [hall,cond_true] at hd
   have hn:A.head id=ops.size:=by simpa using hall
   have ht:ops.toList.take (A.head id)=ops.toList:=List.take_of_length_le (by rw [hn];simp)
   have hdr:ops.toList.drop (A.head id)= []:=List.drop_of_length_le (by rw [hn];simp)
   rw [ht,hdr] at h
   refine wp_region_still hm hd ?_
   exact aoI hN ho _ _ _ ho hr h (fun T' a' ha' hf hr'=>hq _ _ _ _ ha' hf hr')
  | false=>
   rw [hall,cond_false] at hd
   obtain ⟨l⟩:=ops
   refine wp_region_still_tail (l:=l) (A.head id) hm hd ?_
   refine aoI hN ho _ _ _ ho1 hr h (fun T' a' ha' hf hr'=> ?_)
   refine apK hN ho _ _ _ _ ho2 hr' ha' (fun e T2 w2 a2 he hf' hr2=>hq _ _ _ _ he ?_ hr2)
   rw [hw]
   exact (hf.mono (fun t ht=>List.mem_append_left _ ht)).trans (hf'.mono (fun t ht=>List.mem_append_right _ ht))
def ExS:(l:List (Nat×C1)) ->InvT l ->MeaT l ->Tr ->(Tr ->(World ->Prop) ->(World ->Nat) ->Prop) ->Prop
 | [],I,μ,T,K=>K T I μ
 | (s,c)::l,I,μ,T,K=>∃ x:c.ty,ExS l (I x) (μ x) (T.put (some s) (c.mk x)) K
theorem amd:∀ (l:List (Nat×C1)) (I:InvT l) (μ:MeaT l) (T:Tr) (K K':Tr ->(World ->Prop) ->(World ->Nat) ->Prop),AllS l I μ T K ->ExS l I μ T K' ->
  ∃ T' I' μ',K T' I' μ'/\K' T' I' μ'
 | [],I,μ,T,_,_,h,h'=>⟨T,I,μ,h,h'⟩
 | (_,_)::l,I,μ,_,K,K',h,⟨x,h'⟩=>amd l (I x) (μ x) _ K K' (h x) h'
theorem Fr.put' {S:List Nat} {a b:Tr} {s:Nat} {v:Value} (hs:s<8000) (h:Fr (s::S) a b) (hv:b.get s=v):Fr S (a.put (some s) v) b:=by
 intro t ht
 rw [Tr.get_put a s t v hs]
 split
 ·rename_i e;subst e;exact hv
 ·rename_i e;exact h t (by simp only [List.mem_cons,not_or];exact ⟨e,ht⟩)
theorem ayC:∀ (l:List (Nat×C1)) (I:InvT l) (μ:MeaT l) (m:Nat) (T B:Tr) (w:World),okS l ->asQ l I μ m T w ->Fr (l.map (·.1)) B T ->
  ∃ n,n<m/\ExS l I μ B (fun T'' I' μ'=>(∀ t,T.get t=T''.get t)/\I' w/\μ' w=n)
 | [],I,μ,m,T,B,w,_,h,ho=>⟨μ w,h.2,fun t=>ho t (by simp),h.1,rfl⟩
 | (s,c)::l,I,μ,m,T,B,w,hs,h,ho=>by
  unfold asQ at h
  split at h
  ·rename_i x hx
   obtain ⟨n,hn,h'⟩:=ayC l (I x) (μ x) m T (B.put (some s) (c.mk x)) w (fun y hy=>hs y (List.mem_cons_of_mem _ hy)) h (Fr.put' (hs _ (List.mem_cons_self ..)) ho (C1.un_some hx))
   exact ⟨n,hn,x,h'⟩
  ·exact h.elim
theorem akE:∀ (l:List (Nat×C1)) (I:InvT l) (μ:MeaT l) (T B:Tr) (w:World),okS l ->ai5 l I T w ->Fr (l.map (·.1)) B T ->
  ∃ n,ExS l I μ B (fun T'' I' μ'=>(∀ t,T.get t=T''.get t)/\I' w/\μ' w=n)
 | [],I,μ,T,B,w,_,h,ho=>⟨μ w,fun t=>ho t (by simp),h,rfl⟩
 | (s,c)::l,I,μ,T,B,w,hs,h,ho=>by
  unfold ai5 at h
  split at h
  ·rename_i x hx
   obtain ⟨n,h'⟩:=akE l (I x) (μ x) T (B.put (some s) (c.mk x)) w (fun y hy=>hs y (List.mem_cons_of_mem _ hy)) h (Fr.put' (hs _ (List.mem_cons_self ..)) ho (C1.un_some hx))
   exact ⟨n,x,h'⟩
  ·exact h.elim
theorem aEJ:∀ (l:List (Nat×C1)) (I:InvT l) (μ:MeaT l) (B:Tr) (K:Tr ->(World ->Prop) ->(World ->Nat) ->Prop) (T:Tr),okS l ->ExS l I μ B K ->(∀ T'' I' μ',K T'' I' μ' ->∀ t,T.get t=T''.get t) ->
  Fr (l.map (·.1)) B T
 | [],I,μ,B,K,T,_,h,hk=>fun t _=>hk _ _ _ h t
 | (s,_)::l,I,μ,B,K,T,hs,⟨x,h⟩,hk=>by
  have:=aEJ l (I x) (μ x) _ K T (fun y hy=>hs y (List.mem_cons_of_mem _ hy)) h hk
  intro t ht
  simp only [List.map_cons,List.mem_cons,not_or] at ht
  rw [this t ht.2,Tr.get_put B s t _ (hs _ (List.mem_cons_self ..)),if_neg ht.1]
theorem axl (u:Nat ->Value):∀ (l:List Nat) (T:Tr),(∀ s∈l,s<8000) ->Fr l T (afh u l T)
 | [],_,_=>fun _ _=>rfl
 | s::l,T,hs=>by
  intro t ht
  simp only [List.mem_cons,not_or] at ht
  show (afh u l (T.put (some s) (u s))).get t=_
  rw [axl u l _ (fun y hy=>hs y (List.mem_cons_of_mem _ hy)) t ht.2,Tr.get_put T s t _ (hs _ (List.mem_cons_self ..)),if_neg ht.1]
theorem ah6 (T:Tr) (S:List Nat):∀ (l:List Nat) (B:Tr),(∀ s∈l,s<8000) ->Fr (l++S) B T ->Fr S (afh (fun t=>T.get t) l B) T
 | [],_,_,h=>h
 | _::l,_,hs,h=>ah6 T S l _ (fun y hy=>hs y (List.mem_cons_of_mem _ hy)) (Fr.put' (hs _ (List.mem_cons_self ..)) h rfl)
theorem avp {W:List Nat} {l:List (Nat×C1)} {t:Nat} (h:t∈W):t∈agV W l++l.map (·.1):=by
 unfold agV
 by_cases hs:t∈l.map (·.1)
 ·exact List.mem_append_right _ hs
 ·exact List.mem_append_left _ (List.mem_filter.2 ⟨h,by simpa using hs⟩)
theorem al9 {W:List Nat} {l:List (Nat×C1)} (h:∀ t∈W,t<8000):∀ s∈agV W l,s<8000:=fun s hs=>h s (List.mem_filter.1 hs).1
theorem apC {W:List Nat} {l:List (Nat×C1)} {I:InvT l} {μ:MeaT l} {T0 T1 T3:Tr} {w3:World} {m:Nat} {u:Nat ->Value} {K:Tr ->(World ->Prop) ->(World ->Nat) ->Prop}
  (hW:∀ t∈W,t<8000) (hl:okS l) (hex:ExS l I μ (afh u (agV W l) T0) K) (hk:∀ T'' I' μ',K T'' I' μ' ->∀ t,T1.get t=T''.get t) (hf3:Fr W T1 T3) (h3:asQ l I μ m T3 w3):
  ∃ n,n<m/\ExS l I μ (afh (fun t=>T3.get t) (agV W l) T0) (fun T'' I' μ'=>(∀ t,T3.get t=T''.get t)/\I' w3/\μ' w3=n):=by
 refine ayC l I μ m T3 _ w3 hl h3 (ah6 T3 _ _ _ (al9 hW) ?_)
 have h1:=aEJ l I μ _ K T1 hl hex hk
 have h2:=axl u (agV W l) T0 (al9 hW)
 intro t ht
 simp only [List.mem_append,not_or] at ht
 have htW:t∉W:=fun h=>by
  rcases List.mem_append.1 (avp (l:=l) h) with h | h
  ·exact ht.1 h
  ·exact ht.2 h
 rw [hf3 t htW,h1 t ht.2,h2 t ht.1]
theorem aF6 {N:Nat} {c:Code} {l:List (Nat×C1)} {body:(Tr ->World ->Prop) ->Tr ->World ->Prop} {Q:Exit ->Tr ->World ->Prop} {Q':Exit ->Act ->World ->Prop} {T:Tr} {a:Act} {w:World}
  (hW:∀ t∈wr c,t<8000) (hl:okS l) (hr:Rel N T a)
  (hbody:∀ (next:Tr ->World ->Prop) (next':Act ->World ->Prop) T a w,Rel N T a ->body next T w ->(∀ T' w' a',next T' w' ->Fr (wr c) T T' ->Rel N T' a' ->next' a' w') ->
   (∀ e T' w' a',Q e T' w' ->Fr (wr c) T T' ->Rel N T' a' ->Q' e a' w') ->c.wp P (Exit.then next' Q') a w)
  (hq:∀ B,Fr (wr c) T B ->∀ e T' w' a',Q e T' w' ->Fr (wr c) B T' ->Rel N T' a' ->Q' e a' w')
  (h:aAC l (wr c) body T w):(Code.loop c).wp P Q' a w:=by
 obtain ⟨I,μ,h0,h⟩:=h
 let J:Nat ->Act ->World ->Prop:=fun n a' w'=>∃ T',Rel N T' a'/\Fr (wr c) T T'/\∃ u:Nat ->Value,ExS l I μ (afh u (agV (wr c) l) T) (fun T'' I' μ'=>(∀ t,T'.get t=T''.get t)/\I' w'/\μ' w'=n)
 have h00:∃ n,J n a w:=by
  obtain ⟨n,hn⟩:=akE l I μ T _ w hl h0 (ah6 T _ _ T (al9 hW) (fun _ _=>rfl))
  exact ⟨n,T,hr,.refl _ _,_,hn⟩
 obtain ⟨n0,h00⟩:=h00
 refine wp_loop_ghost J n0 h00 ?_
 rintro n a1 w1 ⟨T1,hr1,hfr,u,hex⟩
 obtain ⟨T2,I',μ',hK,hsame,hI,rfl⟩:=amd l I μ _ _ _ (h u) hex
 have hr2:Rel N T2 a1:=hr1.same (fun t=>(hsame t).symm)
 have hfr2:Fr (wr c) T T2:=fun t ht=>(hsame t).symm.trans (hfr t ht)
 refine hbody _ _ _ _ _ hr2 (hK w1 hI) (fun T3 w3 a3 h3 hf3 hr3=> ?_) (fun e T3 w3 a3 he hf3 hr3=>hq _ hfr2 _ _ _ _ he hf3 hr3)
 have hf13:Fr (wr c) T1 T3:=fun t ht=>(hf3 t ht).trans (hsame t).symm
 obtain ⟨m,hm,hex'⟩:=apC hW hl hex (fun _ _ _ h=>h.1) hf13 h3
 exact ⟨m,hm,T3,hr3,hfr2.trans hf3,_,hex'⟩
theorem arx:∀ (c:Code) (l:Nat) (rest:Code),findLabel c l=some rest ->∀ t,t∈wr rest ->t∈wr c:=by
 intro c
 induction c with
 | seq x y ihx ihy=>
  intro l rest h t ht
  unfold findLabel at h
  split at h
  ·rename_i r hr
   injection h with h;subst h
   rcases List.mem_append.1 ht with ht | ht
   ·exact List.mem_append_left _ (ihx _ _ hr _ ht)
   ·exact List.mem_append_right _ ht
  ·exact List.mem_append_right _ (ihy _ _ h _ ht)
 | label l'=>
  intro l rest h t ht
  unfold findLabel at h
  split at h
  ·injection h with h;subst h;cases ht
  ·cases h
 | _=>intro l rest h;simp [findLabel] at h
theorem aBt {N:Nat} :∀ (c:Code) (l:Nat) (rest:Code),findLabel c l=some rest ->adm P N A c=true ->adm P N A rest=true:=by
 intro c
 induction c with
 | seq x y ihx ihy=>
  intro l rest h hok
  unfold adm at hok
  simp only [Bool.and_eq_true] at hok
  unfold findLabel at h
  split at h
  ·rename_i r hr
   injection h with h;subst h
   unfold adm
   simp only [Bool.and_eq_true]
   refine ⟨⟨ihx _ _ hr hok.1.1,hok.1.2⟩,?_⟩
   have h3:=hok.2
   split
   ·rename_i ks hks
    rw [hks] at h3
    simp only [Bool.and_eq_true] at h3 ⊢
    refine ⟨?_,h3.2⟩
    unfold okW
    rw [List.all_eq_true]
    intro t ht
    have:=ar8 h3.1 t (arx _ _ _ hr t ht)
    simpa using this
   ·rfl
  ·exact ihy _ _ h hok.1.2
 | label l'=>
  intro l rest h hok
  unfold findLabel at h
  split at h
  ·injection h with h;subst h;rfl
  ·cases h
 | _=>intro l rest h;simp [findLabel] at h
theorem aEF {N:Nat} {c rest:Code} {lab:Nat} {l:List (Nat×C1)} {first pass:(Tr ->World ->Prop) ->Tr ->World ->Prop} {Q:Exit ->Tr ->World ->Prop} {Q':Exit ->Act ->World ->Prop} {T:Tr} {a:Act} {w:World}
  (hW:∀ t∈wr c,t<8000) (hl:okS l) (hr:Rel N T a) (hf:findLabel c lab=some rest)
  (hfirst:∀ (J:Tr ->World ->Prop) (J':Act ->World ->Prop) T a w,Rel N T a ->first J T w ->(∀ T' w' a',J T' w' ->Fr (wr c) T T' ->Rel N T' a' ->J' a' w') ->
   (∀ e T' w' a',Q e T' w' ->Fr (wr c) T T' ->Rel N T' a' ->Q' e a' w') ->c.wp P (Exit.jump lab J' Q') a w)
  (hpass:∀ (J:Tr ->World ->Prop) (J':Act ->World ->Prop) T a w,Rel N T a ->pass J T w ->(∀ T' w' a',J T' w' ->Fr (wr c) T T' ->Rel N T' a' ->J' a' w') ->
   (∀ e T' w' a',Q e T' w' ->Fr (wr c) T T' ->Rel N T' a' ->Q' e a' w') ->rest.wp P (Exit.jump lab J' Q') a w)
  (hq:∀ B,Fr (wr c) T B ->∀ e T' w' a',Q e T' w' ->Fr (wr c) B T' ->Rel N T' a' ->Q' e a' w')
  (h:aF9 l (wr c) first pass T w):(Code.scope c).wp P Q' a w:=by
 obtain ⟨I,μ,h0,h⟩:=h
 let J:Nat ->Act ->World ->Prop:=fun n a' w'=>∃ T',Rel N T' a'/\Fr (wr c) T T'/\∃ u:Nat ->Value,ExS l I μ (afh u (agV (wr c) l) T) (fun T'' I' μ'=>(∀ t,T'.get t=T''.get t)/\I' w'/\μ' w'=n)
 refine wp_scope_jumps lab (fun a w=>∃ n,J n a w) (fun a w=>leastOf (fun n=>J n a w)) hf ?_ ?_
 ·refine hfirst _ _ _ _ _ hr h0 (fun T' w' a' hi hfr hr'=> ?_) (fun e T' w' a' he hfr hr'=>hq _ (.refl _ _) _ _ _ _ he hfr hr')
  obtain ⟨n,hn⟩:=akE l I μ T' _ w' hl hi (ah6 T' _ _ T (al9 hW) (hfr.mono (fun t ht=>avp ht)))
  exact ⟨n,T',hr',hfr,_,hn⟩
 ·intro a1 w1 hJ
  obtain ⟨hJ1,_⟩:=leastOf_spec hJ
  generalize leastOf (fun n=>J n a1 w1)=n at hJ1
  obtain ⟨T1,hr1,hfr,u,hex⟩:=hJ1
  obtain ⟨T2,I',μ',hK,hsame,hI,rfl⟩:=amd l I μ _ _ _ (h u) hex
  have hr2:Rel N T2 a1:=hr1.same (fun t=>(hsame t).symm)
  have hfr2:Fr (wr c) T T2:=fun t ht=>(hsame t).symm.trans (hfr t ht)
  refine hpass _ _ _ _ _ hr2 (hK w1 hI) (fun T3 w3 a3 h3 hf3 hr3=> ?_) (fun e T3 w3 a3 he hf3 hr3=>hq _ hfr2 _ _ _ _ he hf3 hr3)
  have hf13:Fr (wr c) T1 T3:=fun t ht=>(hf3 t ht).trans (hsame t).symm
  obtain ⟨m,hm,hex'⟩:=apC hW hl hex (fun _ _ _ h=>h.1) hf13 h3
  have hJ3:J m a3 w3:=⟨T3,hr3,hfr2.trans hf3,_,hex'⟩
  exact ⟨⟨m,hJ3⟩,Nat.lt_of_le_of_lt ((leastOf_spec ⟨m,hJ3⟩).2 m hJ3) hm⟩
theorem aIp (hm:P.follows .mixedOrders=true) {N:Nat} (hN:N<=8000):∀ (n:Nat) (c:Code) (Q:Exit ->Tr ->World ->Prop) (Q':Exit ->Act ->World ->Prop) (T:Tr) (a:Act) (w:World),adm P N A c=true ->Rel N T a ->
  vc P τ ρ pan A n c Q T w ->(∀ e T' w' a',Q e T' w' ->Fr (wr c) T T' ->Rel N T' a' ->Q' e a' w') ->c.wp P Q' a w:=by
 intro n
 induction n with
 | zero=>intro c Q Q' T a w _ _ h;exact h.elim
 | succ n ih=>
 intro c
 cases c with
 | skip=>intro Q Q' T a w _ hr h hq;exact wp_skip (hq _ _ _ _ h (.refl _ _) hr)
 | label l=>intro Q Q' T a w _ hr h hq;exact wp_label (hq _ _ _ _ h (.refl _ _) hr)
 | exit id=>intro Q Q' T a w _ hr h hq;exact wp_exit (hq _ _ _ _ h (.refl _ _) hr)
 | goto l=>intro Q Q' T a w _ hr h hq;exact wp_goto (hq _ _ _ _ h (.refl _ _) hr)
 | ret=>intro Q Q' T a w _ hr h hq;exact wp_ret (hq _ _ _ _ h (.refl _ _) hr)
 | region id ops draw=>intro Q Q' T a w hok hr h hq;exact aDe hm hN hok hr h hq
 | seq x y=>
  intro Q Q' T a w hok hr h hq
  unfold adm at hok
  simp only [Bool.and_eq_true] at hok
  have hx:∀ t,t∈wr x ->t∈wr (.seq x y):=fun t ht=>List.mem_append_left _ ht
  have hy:∀ t,t∈wr y ->t∈wr (.seq x y):=fun t ht=>List.mem_append_right _ ht
  unfold vc at h
  dsimp only at h
  split at h
  ·refine wp_seq (ih x _ _ _ _ _ hok.1.1 hr h (fun e T' w' a' he hf hr'=> ?_))
   cases e with
   | normal=>exact ih y _ _ _ _ _ hok.1.2 hr' he (fun e T2 w2 a2 he' hf' hr2=>hq _ _ _ _ he' ((hf.mono hx).trans (hf'.mono hy)) hr2)
   | exit id=>exact hq _ _ _ _ he (hf.mono hx) hr'
   | goto l=>exact hq _ _ _ _ he (hf.mono hx) hr'
   | ret=>exact hq _ _ _ _ he (hf.mono hx) hr'
   | panic ch=>exact hq _ _ _ _ he (hf.mono hx) hr'
   | outgrown=>exact hq _ _ _ _ he (hf.mono hx) hr'
  ·rename_i ks hks
   have hok3:=hok.2
   rw [hks] at hok3
   simp only [Bool.and_eq_true] at hok3
   have hW:=ar8 hok3.1
   have hl:=as1 hok3.2
   obtain ⟨J,h0,h⟩:=h
   refine wp_seq (ih x _ _ _ _ _ hok.1.1 hr h0 (fun e T' w' a' he hf hr'=> ?_))
   cases e with
   | normal=>
    replace he:ai5 ks J T' w':=he
    obtain ⟨n,hex⟩:=akE ks J (aAA ks) T' _ w' hl he (ah6 T' _ _ T (al9 hW) (hf.mono (fun t ht=>avp ht)))
    obtain ⟨T2,J',μ',hK,hsame,hJ,_⟩:=amd ks J (aAA ks) _ _ _ (h _) hex
    have hr2:Rel N T2 a':=hr'.same (fun t=>(hsame t).symm)
    have hf2:Fr (wr x) T T2:=fun t ht=>(hsame t).symm.trans (hf t ht)
    exact ih y _ _ _ _ _ hok.1.2 hr2 (hK w' hJ) (fun e T3 w2 a2 he' hf' hr3=>hq _ _ _ _ he' ((hf2.mono hx).trans (hf'.mono hy)) hr3)
   | exit id=>exact hq _ _ _ _ he (hf.mono hx) hr'
   | goto l=>exact hq _ _ _ _ he (hf.mono hx) hr'
   | ret=>exact hq _ _ _ _ he (hf.mono hx) hr'
   | panic ch=>exact hq _ _ _ _ he (hf.mono hx) hr'
   | outgrown=>exact hq _ _ _ _ he (hf.mono hx) hr'
 | cond c x y=>
  intro Q Q' T a w hok hr h hq
  unfold adm at hok
  simp only [Bool.and_eq_true] at hok
  unfold vc at h
  dsimp only at h
  split at h
  ·rename_i t ht
   have ht':a.eval c= .bool t:=by rw [hr.ev];exact ht
   cases t with
   | true=>exact wp_cond_true ht' (ih x _ _ _ _ _ hok.1 hr h (fun e T' w' a' he hf hr'=>hq _ _ _ _ he (hf.mono (fun t ht=>List.mem_append_left _ ht)) hr'))
   | false=>exact wp_cond_false ht' (ih y _ _ _ _ _ hok.2 hr h (fun e T' w' a' he hf hr'=>hq _ _ _ _ he (hf.mono (fun t ht=>List.mem_append_right _ ht)) hr'))
  ·exact h.elim
 | block id c=>
  intro Q Q' T a w hok hr h hq
  refine wp_block (ih c _ _ _ _ _ hok hr h (fun e T' w' a' he hf hr'=> ?_))
  cases e with
  | exit id'=>
   replace he:bif Nat.beq id' id then Q .normal T' w' else Q (.exit id') T' w':=he
   show if id'=id then Q' .normal a' w' else Q' (.exit id') a' w'
   rw [adF] at he
   by_cases e:id'=id
   ·simp only [e,beq_self_eq_true,cond_true] at he;rw [if_pos e];exact hq _ _ _ _ he hf hr'
   ·have:(id'==id)=false:=by simpa using e
    rw [this,cond_false] at he;rw [if_neg e];exact hq _ _ _ _ he hf hr'
  | normal=>exact hq _ _ _ _ he hf hr'
  | goto l=>exact hq _ _ _ _ he hf hr'
  | ret=>exact hq _ _ _ _ he hf hr'
  | panic ch=>exact hq _ _ _ _ he hf hr'
  | outgrown=>exact hq _ _ _ _ he hf hr'
 | scope c=>
  intro Q Q' T a w hok hr h hq
  unfold adm at hok
  simp only [Bool.and_eq_true] at hok
  obtain ⟨⟨hok,hW⟩,hks⟩:=hok
  have hstraight:vc P τ ρ pan A n c (axJ Q) T w ->(Code.scope c).wp P Q' a w:=fun h=>by
   refine wp_scope_straight (ih c _ _ _ _ _ hok hr h (fun e T' w' a' he hf hr'=> ?_))
   cases e with
   | goto l=>exact he
   | normal=>exact hq _ _ _ _ he hf hr'
   | exit id=>exact hq _ _ _ _ he hf hr'
   | ret=>exact hq _ _ _ _ he hf hr'
   | panic ch=>exact hq _ _ _ _ he hf hr'
   | outgrown=>exact hq _ _ _ _ he hf hr'
  unfold vc at h
  dsimp only at h
  split at h
  ·exact hstraight h
  ·rename_i l hl
   rw [hl] at hks
   dsimp only at hks
   split at h
   ·exact hstraight h
   ·rename_i ks hg
    rw [hg] at hks
    split at h
    ·rename_i rest hrest
     refine aEF (Q:=Q) (ar8 hW) (as1 hks) hr hrest (fun J J' T1 a1 w1 hr1 hb hn hq1=> ?_) (fun J J' T1 a1 w1 hr1 hb hn hq1=> ?_) (fun B hB e T' w' a' he hf hr'=>hq _ _ _ _ he (hB.trans hf) hr') h
     ·refine ih c _ _ _ _ _ hok hr1 hb (fun e T' w' a' he hf hr'=> ?_)
      cases e with
      | goto l'=>
       replace he:bif Nat.beq l' l then J T' w' else False:=he
       show l'=l/\J' a' w'
       rw [adF] at he
       by_cases e:l'=l
       ·simp only [e,beq_self_eq_true,cond_true] at he;exact ⟨e,hn _ _ _ he hf hr'⟩
       ·have:(l'==l)=false:=by simpa using e
        rw [this,cond_false] at he;exact he.elim
      | normal=>exact hq1 _ _ _ _ he hf hr'
      | exit id=>exact hq1 _ _ _ _ he hf hr'
      | ret=>exact hq1 _ _ _ _ he hf hr'
      | panic ch=>exact hq1 _ _ _ _ he hf hr'
      | outgrown=>exact hq1 _ _ _ _ he hf hr'
     ·refine ih rest _ _ _ _ _ (aBt _ _ _ hrest hok) hr1 hb (fun e T' w' a' he hf' hr'=> ?_)
      have hf:Fr (wr c) T1 T':=hf'.mono (arx _ _ _ hrest)
      cases e with
      | goto l'=>
       replace he:bif Nat.beq l' l then J T' w' else False:=he
       show l'=l/\J' a' w'
       rw [adF] at he
       by_cases e:l'=l
       ·simp only [e,beq_self_eq_true,cond_true] at he;exact ⟨e,hn _ _ _ he hf hr'⟩
       ·have:(l'==l)=false:=by simpa using e
        rw [this,cond_false] at he;exact he.elim
      | normal=>exact hq1 _ _ _ _ he hf hr'
      | exit id=>exact hq1 _ _ _ _ he hf hr'
      | ret=>exact hq1 _ _ _ _ he hf hr'
      | panic ch=>exact hq1 _ _ _ _ he hf hr'
      | outgrown=>exact hq1 _ _ _ _ he hf hr'
    ·exact h.elim
 | loop c=>
  intro Q Q' T a w hok hr h hq
  unfold adm at hok
  simp only [Bool.and_eq_true] at hok
  obtain ⟨⟨hok,hW⟩,hks⟩:=hok
  refine aF6 (Q:=Q) (body:=fun next=>vc P τ ρ pan A n c (aiw next Q)) (ar8 hW) (as1 hks) hr (fun next next' T1 a1 w1 hr1 hb hn hq1=>ih c _ _ _ _ _ hok hr1 hb (fun e T' w' a' he hf hr'=> ?_))
   (fun B hB e T' w' a' he hf hr'=>hq _ _ _ _ he (hB.trans hf) hr') h
  cases e with
  | normal=>exact hn _ _ _ he hf hr'
  | exit id=>exact hq1 _ _ _ _ he hf hr'
  | goto l=>exact hq1 _ _ _ _ he hf hr'
  | ret=>exact hq1 _ _ _ _ he hf hr'
  | panic ch=>exact hq1 _ _ _ _ he hf hr'
  | outgrown=>exact hq1 _ _ _ _ he hf hr'
 | rangeFunc f ps x y=>intro Q Q' T a w _ _ h;exact h.elim
 | refuse why=>intro Q Q' T a w _ _ h;exact h.elim
end
end Go.Vc
end
section
namespace Go.Vc
open Go
def Ret (K:Value ->World ->Prop) (e:Ending) (w:World):Prop:=∃ v,e= .returned v/\K v w
def RetP (K:Value ->World ->Prop) (p:List PanicEntry ->World ->Prop) (e:Ending) (w:World):Prop:=(∃ v,e= .returned v/\K v w)\/∃ ch,e= .panicked ch/\p ch w
def resQ (P:Program) (τ:TypeId ->K1) (w:World) (T:Tr):List ResultVar ->Array Value ->(Array Value ->Prop) ->Prop
 | [],acc,f=>f acc
 | .tmp t::l,acc,f=>resQ P τ w T l (acc.push (T.get t)) f
 | .cell p t::l,acc,f=>anp P (τ t) t (T.get p) w fun v=>resQ P τ w T l (acc.push v) f
def oneOf (vs:Array Value):Value:=match vs.toList with | [v]=>v | _=> .tuple vs
def vRet (P:Program) (τ:TypeId ->K1) (rs:List ResultVar) (K:Value ->World ->Prop) (p:List PanicEntry ->World ->Prop):Exit ->Tr ->World ->Prop
 | .normal,T,w=>resQ P τ w T rs #[] fun vs=>K (oneOf vs) w
 | .ret,T,w=>resQ P τ w T rs #[] fun vs=>K (oneOf vs) w
 | .panic ch,_,w=>p ch w
 | _,_,_=>False
noncomputable def afs:List Value ->Nat ->Tr ->Tr
 | [],_,T=>T
 | v::l,i,T=>afs l (i+1) (T.put (some i) v)
def vcFn (P:Program) (τ:TypeId ->K1) (ρ:TypeId ->Kd) (pan:FuncId ->Bool) (A:Ann) (fn:Func) (args:Array Value) (K:Value ->World ->Prop) (p:List PanicEntry ->World ->Prop) (w:World):Prop:=
 match fn.body with
 | some c=>vc P τ ρ pan A 1000 c (vRet P τ fn.results.toList K p) (afs args.toList 0 .nil) w
 | none=>False
def okFn (P:Program) (A:Ann) (fn:Func) (n:Nat):Bool:=match fn.body with
 | some c=>adm P fn.ntmps A c&&Nat.ble fn.ntmps 8000&&Nat.ble n fn.ntmps
 | none=>false
section
variable {P:Program} {τ:TypeId ->K1} {ρ:TypeId ->Kd} {pan:FuncId ->Bool} {A:Ann}
def resG (tmps:Array Value):ResultVar ->Sem Value
 | .tmp t=>pure (tmps.getD t undef)
 | .cell p t=>do loadVar t (<- asAddr (tmps.getD p undef))
theorem aEu (fn:Func) (tmps:Array Value):results fn tmps=(do
  let vs <- fn.results.mapM (resG tmps)
  pure (if h:vs.size=1 then vs[0] else .tuple vs)):=rfl
theorem avO {w:World} {a:Act} {T:Tr} {N:Nat} (hr:Rel N T a):∀ (l:List ResultVar) (acc:Array Value) (f:Array Value ->Prop),resQ P τ w T l acc f ->
  ∃ vs,(l.mapM (resG a.tmps)).run P w= .ok vs w/\f (acc++vs.toArray)
 | [],acc,f,h=>⟨[],by simp,by simpa [resQ] using h⟩
 | .tmp t::l,acc,f,h=>by
  obtain ⟨vs,h1,h2⟩:=avO hr l _ f h
  refine ⟨T.get t::vs,?_,?_⟩
  ·simp only [List.mapM_cons,resG,hr.get,Sem.run_bind,Sem.run_pure,Result.andThen_ok,h1]
  ·have:acc++(T.get t::vs).toArray=acc.push (T.get t)++vs.toArray:=by apply Array.ext';simp
   rw [this];exact h2
 | .cell p t::l,acc,f,h=>by
  unfold resQ anp at h
  split at h
  ·rename_i q hq
   obtain ⟨v,h1,h2⟩:=aDz (P:=P) h
   obtain ⟨vs,h3,h4⟩:=avO hr l _ f h2
   refine ⟨v::vs,?_,?_⟩
   ·have ha:(asAddr (a.tmps.getD p undef)).run P w= .ok q w:=by rw [hr.get,hq];rfl
    simp only [List.mapM_cons,resG,Sem.run_bind,ha,Sem.run_pure,Result.andThen_ok,h1 w (.refl w),h3]
   ·have:acc++(v::vs).toArray=acc.push v++vs.toArray:=by apply Array.ext';simp
    rw [this];exact h4
  ·exact h.elim
theorem anS {fn:Func} {w:World} {a:Act} {T:Tr} {N:Nat} (hr:Rel N T a) {f:Array Value ->Prop} (h:resQ P τ w T fn.results.toList #[] f):∃ vs,(results fn a.tmps).run P w= .ok (oneOf vs) w/\f vs:=by
 obtain ⟨vs,h1,h2⟩:=avO hr _ _ _ h
 refine ⟨vs.toArray,?_,by simpa using h2⟩
 rw [aEu,Array.mapM_eq_mapM_toList]
 simp only [Sem.run_bind,Sem.run_map,h1,Result.andThen_ok,Sem.run_pure]
 congr 1
 match vs with
 | []=>rfl
 | [v]=>rfl
 | u::v::l=>simp [oneOf]
theorem ayP:∀ (l:List Value) (i:Nat) (T:Tr) (t:Nat),i+l.length<=8000 ->(afs l i T).get t=if t<i then T.get t else match l[t - i]? with | some v=>v | none=>T.get t
 | [],i,T,t,_=>by simp [afs]
 | v::l,i,T,t,h=>by
  simp only [List.length_cons] at h
  unfold afs
  rw [ayP l (i+1) _ t (by omega)]
  by_cases h1:t<i
  ·rw [if_pos (by omega),if_pos h1,Tr.get_put T i t v (by omega),if_neg (by omega)]
  ·by_cases h2:t=i
   ·subst h2
    rw [if_pos (by omega),if_neg h1,Tr.get_put T t t v (by omega),if_pos rfl]
    simp
   ·rw [if_neg (by omega),if_neg h1,Tr.get_put T i t v (by omega),if_neg h2]
    have:t - i=(t - (i+1))+1:=by omega
    rw [this,List.getElem?_cons_succ]
theorem Rel.init {N:Nat} {args:Array Value} (hN:N<=8000) (hn:args.size<=N):Rel N (afs args.toList 0 .nil) {tmps:=args++Array.replicate (N - args.size) undef,defers:= []} :=by
 refine ⟨rfl,by simp;omega,fun t=> ?_⟩
 rw [ayP _ 0 _ t (by simp;omega),if_neg (by omega),Nat.sub_zero]
 simp only [Array.getD_eq_getD_getElem?,Array.getElem?_append,Array.getElem?_toList]
 by_cases h:t<args.size
 ·simp [h]
 ·rw [if_neg h,Array.getElem?_eq_none (Nat.le_of_not_lt h)]
  simp only [Tr.get_nil]
  by_cases h2:t - args.size<N - args.size
  ·simp [h2]
  ·simp [h2]
theorem arn {g:FuncId} {fn:Func} {args:Array Value} {w:World} {K:Value ->World ->Prop} {p:List PanicEntry ->World ->Prop} (hm:P.follows .mixedOrders=true) (hf:P.funcs[g]? =some fn) (hok:okFn P A fn args.size=true)
  (h:vcFn P τ ρ pan A fn args K p w):Calls P g args w (RetP K p):=by
 unfold vcFn at h
 unfold okFn at hok
 split at h
 ·rename_i c hc
  rw [hc] at hok
  simp only [Bool.and_eq_true] at hok
  obtain ⟨⟨hok,hN⟩,hn⟩:=hok
  have hN':fn.ntmps<=8000:=by simpa using hN
  have hn':args.size<=fn.ntmps:=by simpa using hn
  refine calls_of_wp hf hc ?_
  refine aIp hm hN' 1000 c _ _ _ _ _ hok (Rel.init hN' hn') h (fun e T' w' a' he _ hr=> ?_)
  cases e with
  | normal=>
   obtain ⟨vs,h1,h2⟩:=anS hr he
   exact ⟨hr.defers,_,h1,.inl ⟨_,rfl,h2⟩⟩
  | ret=>
   obtain ⟨vs,h1,h2⟩:=anS hr he
   exact ⟨hr.defers,_,h1,.inl ⟨_,rfl,h2⟩⟩
  | panic ch=>exact ⟨hr.defers,.inr ⟨_,rfl,he⟩⟩
  | exit id=>exact he.elim
  | goto l=>exact he.elim
  | outgrown=>exact he.elim
 ·exact h.elim
theorem anG {g:FuncId} {fn:Func} {args:Array Value} {w:World} {K:Value ->World ->Prop} (hm:P.follows .mixedOrders=true) (hf:P.funcs[g]? =some fn) (hok:okFn P A fn args.size=true)
  (h:vcFn P τ ρ pan A fn args K (fun _ _=>False) w):Calls P g args w (Ret K):=
 (arn hm hf hok h).mono fun _ _ he=>he.elim id fun ⟨_,_,h⟩=>h.elim
end
end Go.Vc
end
section
namespace Go.Kc
open Go.Kt
def firstFree:Nat ->List Bool ->Option Nat
 | _,[]=>none
 | n,b::l=>if b then firstFree (n+1) l else some n
def abq (T:List Bool):List Bool×Int×Int:=match firstFree 0 T with
 | some i=>(T.set i true,i,0)
 | none=>(T, -1,3)
def afa (T:List Bool) (i:Int):List Bool×Int:=
 if i<0\/(T.length:Int)<=i then (T,1) else if T.getD i.toNat false=false then (T,2) else (T.set i.toNat false,0)
def pNew (n:Int):List Bool:=List.replicate (min (max n 0).toNat 1024) false
theorem aki:∀ {T:List Bool} {n i:Nat},firstFree n T=some i ->n<=i/\T[i - n]? =some false/\∀ j,n<=j ->j<i ->T[j - n]? =some true
 | [],_,_,h=>by cases h
 | b::T,n,i,h=>by
  unfold firstFree at h
  cases b with
  | true=>
   simp only [if_true] at h
   obtain ⟨h1,h2,h3⟩:=aki h
   refine ⟨by omega,?_,fun j hj hji=> ?_⟩
   ·rw [show i - n=(i - (n+1))+1 by omega];simpa using h2
   ·rcases Nat.eq_or_lt_of_le hj with e | e
    ·subst e;simp
    ·rw [show j - n=(j - (n+1))+1 by omega];simpa using h3 j (by omega) hji
  | false=>
   simp only [Bool.false_eq_true,if_false,Option.some.injEq] at h
   subst h
   exact ⟨Nat.le_refl _,by simp,fun j h1 h2=>by omega⟩
theorem aoh:∀ {T:List Bool} {n:Nat},firstFree n T=none ->∀ b∈T,b=true
 | [],_,_,b,hb=>by cases hb
 | b::T,n,h,c,hc=>by
  unfold firstFree at h
  cases b with
  | true=>
   simp only [if_true] at h
   rcases List.mem_cons.1 hc with rfl | hc
   ·rfl
   ·exact aoh h c hc
  | false=>simp at h
theorem amE (T:List Bool):(abq T).1.length=T.length:=by
 unfold abq;split<;>simp
theorem aal (T:List Bool) (i:Int):(afa T i).1.length=T.length:=by
 unfold afa;split
 ·rfl
 ·split<;>simp
structure Cnt where
 use:Int
 limit:Int
deriving DecidableEq
def top:Int:=1099511627776
def isG (g:Int):Bool:=decide (0<=g)&&decide (g<64)
def isA (n:Int):Bool:=decide (0<=n)&&decide (n<=top)
def cOf (C:List Cnt) (g:Int):Cnt:=if isG g then C.getD g.toNat ⟨0,0⟩ else ⟨0,0⟩
def cUse (C:List Cnt) (g:Int):Int:=(cOf C g).use
def aab (C:List Cnt) (g:Int):Int:=(cOf C g).limit
def cSet (C:List Cnt) (g:Int) (f:Cnt ->Cnt):List Cnt:=C.set g.toNat (f (C.getD g.toNat ⟨0,0⟩))
def aaK (C:List Cnt) (g n:Int):List Cnt×Int:=
 if isG g&&isA n then (cSet C g fun x=> {x with limit:=n},0) else (C,1)
def nodupB:List Int ->Bool
 | []=>true
 | x::l=> !l.contains x&&nodupB l
def ab2 (l:List Int) (n:Int):Bool:=l.all isG&&nodupB l&&isA n
def cAdd (C:List Cnt) (l:List Int) (n:Int):List Cnt:=l.foldl (fun C g=>cSet C g fun x=> {x with use:=x.use+n}) C
def cTry (C:List Cnt) (l:List Int) (n:Int):List Cnt×Int×Int:=
 if ab2 l n=false then (C, -1,1)
 else match l.find? (fun g=>decide (0<n)&&decide ((C.getD g.toNat ⟨0,0⟩).limit<(C.getD g.toNat ⟨0,0⟩).use+n)) with
  | some g=>(C,g,22)
  | none=>(cAdd C l n, -1,0)
def aaC (C:List Cnt) (l:List Int) (n:Int):List Cnt×Int:=
 if ab2 l n=false then (C,1)
 else match l.find? (fun g=>decide ((C.getD g.toNat ⟨0,0⟩).use<n)) with
  | some _=>(C,2)
  | none=>(cAdd C l (-n),0)
def cNew:List Cnt:=List.replicate 64 ⟨0,top⟩
structure aco (C:List Cnt):Prop where
 len:C.length=64
 ok:∀ x∈C,(0<=x.use/\x.use<=top)/\0<=x.limit/\x.limit<=top
structure FS where
 sizes:List Int
 pages:Int×Int ->Option (List UInt8)
def fNew (sizes:List Int):FS:=⟨(sizes.take 32).map fun n=>min (max n 0) 4096,fun _=>none⟩
def aAy (F:FS) (f:Int):Int:=if f<0\/(F.sizes.length:Int)<=f then 0 else F.sizes.getD f.toNat 0
def u8I (n:Int):UInt8:=UInt8.ofNat (n % 256).toNat
def ahs (k:Int×Int):List UInt8:=(List.range 16).map fun i:Nat=>u8I (31*k.1+7*k.2+(i:Int))
def fHas (F:FS) (k:Int×Int):Bool:=decide (0<=k.2)&&decide (k.2<aAy F k.1)
def asU (F:FS) (k:Int×Int):List UInt8×Int:=
 if fHas F k=false then ([],2) else match F.pages k with
  | some t=>(t,0)
  | none=>(ahs k,0)
def aht (F:FS) (k:Int×Int) (t:List UInt8):FS×Int:=
 if fHas F k=false then (F,2) else if t.length≠16 then (F,1) else ({F with pages:=fun x=>if x=k then some t else F.pages x},0)
def aoE (g c:Int):Int:=1+2*g+512*(c % top)
def abU (x:Int):Int×Int×Bool:=if x % 2=1/\x / 512<top then (x / 2 % 256,x / 512,true) else (0,0,false)
def ajp (l:List Int) (g:Int):Int:=l.getD g.toNat 0
def went (l:List Int) (g:Int):List Int×Int:=
 if isG g=false then (l,0) else (l.set g.toNat (IntKind.i64.wrap (ajp l g+1)),if ajp l g<0 then 0 else aoE g (ajp l g))
def came (l:List Int) (x:Int) (resident:Int):Bool:=
 (abU x).2.2&&isG (abU x).1&&decide (0<=ajp l (abU x).1)&&decide ((ajp l (abU x).1 - (abU x).2.1) % top<=resident)
end Go.Kc
end
section
namespace Go.Kc
open Go.Kt
structure Nod where
 parent:Int
 use:Int
 own:Int
deriving DecidableEq
def Nod.ownN (x:Nod):Int:=min x.own x.use
def nZ:Nod:=⟨0,0,0⟩
def nAt (l:List Nod) (i:Int):Nod:=l.getD i.toNat nZ
def aaL:Nat ->List Nod ->Bool
 | _,[]=>true
 | i,x::l=>((decide (i=0)&&decide (x.parent= -1))||(decide (0<=x.parent)&&decide (x.parent<(i:Int))))&&isA x.use&&isA x.own&&aaL (i+1) l
def ab8 (l:List Nod):Bool:=aaL 0 l&&decide (l.length<=64)
def upN (l:List Nod) (t:Int):Nat ->Int ->List Int
 | 0,_=> []
 | n+1,g=>if g=t then [] else if g<0 then [g] else g::upN l t n (nAt l g).parent
def ups (l:List Nod) (t g:Int):List Int:=upN l t (l.length+1) g
def agT (l:List Nod) (g t:Int):Bool:=(ups l t g).all fun x=>decide (0<=x)
def sumOf (l:List Nod) (p:Int):Int:=((l.drop 1).filter fun x=>x.parent==p).foldl (fun s x=>s+x.ownN) 0
def aix (l:List Nod) (t:Int) (out:List Int) (i:Nat) (x:Nod):Int:=
 if (i:Int)=t\/agT l i t=false then 0
 else if x.parent≠t/\out.getD x.parent.toNat 0<sumOf l x.parent then x.ownN*out.getD x.parent.toNat 0 / sumOf l x.parent
 else x.ownN
def ahg (l:List Nod) (t:Int):List Nod ->List Int ->List Int
 | [],out=>out
 | x::r,out=>ahg l t r (out++ [aix l t out out.length x])
def adu (l:List Nod) (t:Int):List Int:=if ab8 l=false\/t<0\/(l.length:Int)<=t then [] else ahg l t l []
def ajn (l:List Nod) (eff:List Int) (t g:Int):Bool:=
 if ab8 l=false\/eff.length≠l.length\/t<0\/(l.length:Int)<=t\/g<0\/(l.length:Int)<=g\/agT l g t=false then false
 else (ups l t g).any fun x=>decide ((nAt l x).use<=eff.getD x.toNat 0)
def sumI (l:List Int):Int:=l.foldl (· + ·) 0
def ace (n:Int) (ws:List Int):Bool:=decide (0<=n)&&decide (n<=1048576)&&decide (ws.length<=64)&&ws.all fun w=>decide (0<=w)&&decide (w<=top)
def ahead (rs:List Int) (i:Nat) (r:Int):Nat:=(rs.zipIdx.filter fun p:Int×Nat=>decide (r<p.1)||(decide (p.1=r)&&decide (p.2<i))).length
def acE (n:Int) (ws:List Int):List Int:=
 if ace n ws=false then [] else
 if sumI ws=0 then ws.map fun _=>0 else
 let rs:=ws.map fun w=>n*w % sumI ws
 let left:=n - sumI (ws.map fun w=>n*w / sumI ws)
 ws.zipIdx.map fun p:Int×Nat=>n*p.1 / sumI ws+if (ahead rs p.2 (n*p.1 % sumI ws):Int)<left then 1 else 0
def ab3 (n:Int) (ws:List Int):List Int:=
 if ace n ws=false then [] else if sumI ws=0\/n=0 then ws.map fun _=>0 else if sumI ws<=n then ws else acE n ws
end Go.Kc
end
section
namespace Go.Sp
open Go Go.Vc
structure Asn where
 holds:Array Obj ->(Nat ->Prop) ->Prop
 loc:∀ {h h':Array Obj} {F:Nat ->Prop},holds h F ->(∀ b,F b ->h'[b]? =h[b]?) ->holds h' F
def SepH:List Asn ->Array Obj ->(Nat ->Prop) ->Prop
 | [],_,_=>True
 | A::L,h,U=>∃ F,A.holds h F/\(∀ b,F b ->b<h.size/\¬ U b)/\SepH L h (fun b=>U b\/F b)
structure Env where
 os:Os
 tape:Nat ->Question ->Nat
 output:Array (Nat×ByteArray)
def World.env (w:World):Env:=⟨w.os,w.tape,w.output⟩
structure Sep (E:Env) (L:List Asn) (w:World):Prop where
 env:World.env w=E
 heap:SepH L w.heap (fun _=>False)
def emp:Asn:=⟨fun _ F=>∀ b,¬ F b,fun h _=>h⟩
def thaw (z:Nat×Nat) (n:Nat):Prop:=∀ o,o<n ->¬ (z.1<=o/\o<z.2)
def blk (b:Nat) (c:List Value):Asn:=
 ⟨fun h F=>(∃ t z,h[b]? =some (.cells c.toArray t z)/\thaw z c.length)/\∀ x,F x↔x=b,fun hh hl=>⟨by rw [hl b ((hh.2 b).2 rfl)];exact hh.1,hh.2⟩⟩
def mapB (b:Nat) (es:Array MapEntry) (ck:Nat):Asn:=
 ⟨fun h F=>h[b]? =some (.map es ck)/\∀ x,F x↔x=b,fun hh hl=>⟨by rw [hl b ((hh.2 b).2 rfl)];exact hh.1,hh.2⟩⟩
def objB (b:Nat) (o:Obj):Asn:=
 ⟨fun h F=>h[b]? =some o/\∀ x,F x↔x=b,fun hh hl=>⟨by rw [hl b ((hh.2 b).2 rfl)];exact hh.1,hh.2⟩⟩
def old (H:Array Obj):Asn:=
 ⟨fun h F=>(∀ b,b<H.size ->h[b]? =H[b]?)/\∀ x,F x↔x<H.size,fun hh hl=>⟨fun b hb=>by rw [hl b ((hh.2 b).2 hb)];exact hh.1 b hb,hh.2⟩⟩
def pur (p:Prop) (A:Asn):Asn:=⟨fun h F=>p/\A.holds h F,fun hh hl=>⟨hh.1,A.loc hh.2 hl⟩⟩
def exA {α:Sort _} (f:α ->Asn):Asn:=⟨fun h F=>∃ x,(f x).holds h F,fun ⟨x,hx⟩ hl=>⟨x,(f x).loc hx hl⟩⟩
def star (A B:Asn):Asn:=
  ⟨fun h F=>∃ F1 F2,A.holds h F1/\B.holds h F2/\(∀ b,F1 b ->¬ F2 b)/\∀ b,F b↔F1 b\/F2 b,
   fun ⟨F1,F2,h1,h2,h3,h4⟩ hl=>⟨F1,F2,A.loc h1 (fun b hb=>hl b ((h4 b).2 (.inl hb))),B.loc h2 (fun b hb=>hl b ((h4 b).2 (.inr hb))),h3,h4⟩⟩
theorem SepH.weaken:∀ {L:List Asn} {h:Array Obj} {U V:Nat ->Prop},SepH L h U ->(∀ b,V b ->U b) ->SepH L h V
 | [],_,_,_,_,_=>trivial
 | _::_,_,_,_,⟨F,h1,h2,h3⟩,hv=>⟨F,h1,fun b hb=>⟨(h2 b hb).1,fun hvb=>(h2 b hb).2 (hv b hvb)⟩,h3.weaken (fun b hb=>hb.elim (fun x=> .inl (hv b x)) .inr)⟩
theorem SepH.swap {A B:Asn} {L:List Asn} {h:Array Obj} {U:Nat ->Prop} :SepH (A::B::L) h U ->SepH (B::A::L) h U:=by
 rintro ⟨F,h1,h2,G,h3,h4,h5⟩
 refine ⟨G,h3,fun b hb=>⟨(h4 b hb).1,fun hu=>(h4 b hb).2 (.inl hu)⟩,F,h1,fun b hb=>⟨(h2 b hb).1,?_⟩,h5.weaken ?_⟩
 ·rintro (hu | hg)
  ·exact (h2 b hb).2 hu
  ·exact (h4 b hg).2 (.inr hb)
 ·rintro b ((hu | hg) | hf)
  ·exact .inl (.inl hu)
  ·exact .inr hg
  ·exact .inl (.inr hf)
theorem SepH.cons {A:Asn} {L L':List Asn} {h:Array Obj} {U:Nat ->Prop} (hl:∀ U,SepH L h U ->SepH L' h U):SepH (A::L) h U ->SepH (A::L') h U:=
 fun ⟨F,h1,h2,h3⟩=>⟨F,h1,h2,hl _ h3⟩
theorem SepH.drop {A:Asn} {L:List Asn} {h:Array Obj} {U:Nat ->Prop} :SepH (A::L) h U ->SepH L h U:=
 fun ⟨_,_,_,h3⟩=>h3.weaken (fun _ hb=> .inl hb)
theorem SepH.front {A:Asn} {h:Array Obj} :∀ {L:List Asn} {L2:List Asn} {U:Nat ->Prop},SepH (L++A::L2) h U ->SepH (A::(L++L2)) h U
 | [],_,_,hh=>hh
 | _::_,_,_,hh=>(SepH.cons (fun _ h=>SepH.front h) hh).swap
theorem SepH.perm {h:Array Obj} {L L':List Asn} (hp:L.Perm L'):∀ {U:Nat ->Prop},SepH L h U ->SepH L' h U:=by
 induction hp with
 | nil=>exact id
 | cons A _ ih=>exact fun hh=>hh.cons (fun _ h=>ih h)
 | swap A B L=>exact SepH.swap
 | trans _ _ ih1 ih2=>exact fun hh=>ih2 (ih1 hh)
theorem SepH.append_left {h:Array Obj} :∀ {L L':List Asn} {U:Nat ->Prop},SepH (L++L') h U ->SepH L h U
 | [],_,_,_=>trivial
 | _::_,_,_,⟨F,h1,h2,h3⟩=>⟨F,h1,h2,h3.append_left⟩
def agN (L:List Asn):List Nat ->List Asn
 | []=> []
 | i::is=>match L[i]? with
  | some A=>A::agN L is
  | none=>agN L is
def al2:List Nat ->Bool
 | []=>true
 | i::is=> !is.contains i&&al2 is
theorem SepH.fam {h:Array Obj} :∀ {L:List Asn} {U:Nat ->Prop},SepH L h U ->∃ Fs:Nat ->Nat ->Prop,
  (∀ (i:Nat) (A:Asn),L[i]? =some A ->A.holds h (Fs i)/\∀ b,Fs i b ->b<h.size/\¬ U b)/\∀ i j b,i≠j ->i<L.length ->j<L.length ->Fs i b ->¬ Fs j b
 | [],_,_=>⟨fun _ _=>False,fun i A hi=>by simp at hi,fun _ _ _ _ hi=>by simp at hi⟩
 | B::L,U,⟨F,h1,h2,h3⟩=>by
  obtain ⟨Fs,g1,g2⟩:=SepH.fam h3
  refine ⟨fun i=>match i with | 0=>F | i+1=>Fs i,?_,?_⟩
  ·intro i A hi
   cases i with
   | zero=>simp only [List.getElem?_cons_zero,Option.some.injEq] at hi;subst hi;exact ⟨h1,h2⟩
   | succ i=>
    have:=g1 i A (by simpa using hi)
    exact ⟨this.1,fun b hb=>⟨(this.2 b hb).1,fun hu=>(this.2 b hb).2 (.inl hu)⟩⟩
  ·intro i j b hij hi hj hb hb'
   cases i with
   | zero=>
    cases j with
    | zero=>exact hij rfl
    | succ j=>
     have hjl:j<L.length:=by simpa using hj
     have:=(g1 j L[j] (List.getElem?_eq_getElem hjl)).2 b hb'
     exact this.2 (.inr hb)
   | succ i=>
    cases j with
    | zero=>
     have hil:i<L.length:=by simpa using hi
     have:=(g1 i L[i] (List.getElem?_eq_getElem hil)).2 b hb
     exact this.2 (.inr hb')
    | succ j=>exact g2 i j b (fun e=>hij (by rw [e])) (by simpa using hi) (by simpa using hj) hb hb'
theorem SepH.of_fam {h:Array Obj} {L:List Asn} {Fs:Nat ->Nat ->Prop} (g1:∀ (i:Nat) (A:Asn),L[i]? =some A ->A.holds h (Fs i)/\∀ b,Fs i b ->b<h.size)
  (g2:∀ i j b,i≠j ->i<L.length ->j<L.length ->Fs i b ->¬ Fs j b):∀ (is:List Nat) (U:Nat ->Prop),al2 is=true ->(∀ b i,i∈is ->i<L.length ->Fs i b ->¬ U b) ->SepH (agN L is) h U
 | [],_,_,_=>trivial
 | i::is,U,hok,hU=>by
  simp only [al2,Bool.and_eq_true,Bool.not_eq_true'] at hok
  have hni:i∉is:=by simpa using hok.1
  unfold agN
  cases hi:L[i]? with
  | none=>exact SepH.of_fam g1 g2 is U hok.2 (fun b j hj hjl hb=>hU b j (List.mem_cons_of_mem _ hj) hjl hb)
  | some A=>
   have hil:i<L.length:=by
    rcases Nat.lt_or_ge i L.length with h' | h'
    ·exact h'
    ·simp [List.getElem?_eq_none h'] at hi
   refine ⟨Fs i,(g1 i A hi).1,fun b hb=>⟨(g1 i A hi).2 b hb,hU b i (List.mem_cons_self ..) hil hb⟩,?_⟩
   refine SepH.of_fam g1 g2 is _ hok.2 (fun b j hj hjl hb hu=> ?_)
   rcases hu with hu | hu
   ·exact hU b j (List.mem_cons_of_mem _ hj) hjl hb hu
   ·exact g2 i j b (fun e=>hni (e ▸ hj)) hil hjl hu hb
theorem SepH.fr {h:Array Obj} {A:Asn} :∀ (L:List Asn) (i:Nat) {U:Nat ->Prop},L[i]? =some A ->SepH L h U ->SepH (A::L.eraseIdx i) h U
 | [],i,_,hi,_=>by simp at hi
 | B::L,0,_,hi,hh=>by simp only [List.getElem?_cons_zero,Option.some.injEq] at hi;subst hi;exact hh
 | B::L,i+1,_,hi,hh=>(hh.cons fun _ h=>SepH.fr L i (by simpa using hi) h).swap
section
variable {E:Env} {L:List Asn} {w:World}
theorem Sep.re (h:Sep E L w) (is:List Nat) (hok:al2 is=true):Sep E (agN L is) w:=by
 obtain ⟨Fs,g1,g2⟩:=h.heap.fam
 exact ⟨h.env,SepH.of_fam (fun i A hi=>⟨(g1 i A hi).1,fun b hb=>((g1 i A hi).2 b hb).1⟩) g2 is _ hok (fun _ _ _ _ _=>id)⟩
theorem auv:∀ {is:List Nat},al2 is=true ->is.Nodup
 | [],_=>List.nodup_nil
 | i::is,h=>by
  simp only [al2,Bool.and_eq_true,Bool.not_eq_true'] at h
  exact List.nodup_cons.2 ⟨by simpa using h.1,auv h.2⟩
theorem auu:∀ {is:List Nat},is.Nodup ->al2 is=true
 | [],_=>rfl
 | i::is,h=>by
  have:=List.nodup_cons.1 h
  simp only [al2,Bool.and_eq_true,Bool.not_eq_true']
  exact ⟨by simpa using this.1,auu this.2⟩
theorem axj (L:List Asn) (i:Nat) (is:List Nat):agN L (i::is)=(match L[i]? with | some A=>A::agN L is | none=>agN L is):=rfl
theorem ase (L:List Asn):∀ (is js:List Nat),agN L (is++js)=agN L is++agN L js
 | [],_=>rfl
 | i::is,js=>by
  rw [List.cons_append,axj,axj,ase L is js]
  cases L[i]? <;>rfl
theorem axk (L:List Asn):∀ (k n:Nat),n+k=L.length ->agN L (List.range' n k)=L.drop n
 | 0,n,h=>by simp [agN,List.drop_of_length_le (show L.length<=n by omega)]
 | k+1,n,h=>by
  rw [List.range'_succ]
  unfold agN
  rw [List.getElem?_eq_getElem (by omega),axk L k (n+1) (by omega)]
  exact (List.drop_eq_getElem_cons (by omega)).symm
def aAv (n:Nat):List Nat ->Bool
 | []=>true
 | i::is=>Nat.blt i n&&aAv n is
theorem aAK {n:Nat} :∀ {is:List Nat},aAv n is=true ->∀ i∈is,i<n
 | [],_,i,h=>by cases h
 | j::is,hh,i,h=>by
  simp only [aAv,Bool.and_eq_true,Nat.blt_eq] at hh
  rcases List.mem_cons.1 h with rfl | h
  ·exact hh.1
  ·exact aAK hh.2 i h
theorem Sep.ro (h:Sep E L w) (n:Nat) (is:List Nat) (hok:(al2 is&&aAv n is)=true):Sep E (agN L is++L.drop n) w:=by
 simp only [Bool.and_eq_true] at hok
 rcases Nat.lt_or_ge L.length n with hl | hl
 ·have:=h.re is hok.1
  rw [List.drop_of_length_le (by omega),List.append_nil];exact this
 ·have:=h.re (is++List.range' n (L.length - n)) (auu (List.nodup_append.2 ⟨auv hok.1,List.nodup_range',fun a ha b hb=>by
   have h1:=aAK hok.2 a ha
   have h2:=(List.mem_range'_1.1 hb).1
   omega⟩))
  rw [ase,axk L _ n (by omega)] at this
  exact this
theorem Sep.perm {L':List Asn} (h:Sep E L w) (hp:L.Perm L'):Sep E L' w:=⟨h.env,h.heap.perm hp⟩
theorem Sep.swap {A B:Asn} (h:Sep E (A::B::L) w):Sep E (B::A::L) w:=⟨h.env,h.heap.swap⟩
theorem Sep.fr (h:Sep E L w) (i:Nat) {A:Asn} (hi:L[i]? =some A):Sep E (A::L.eraseIdx i) w:=⟨h.env,SepH.fr L i hi h.heap⟩
theorem Sep.tail {A:Asn} (h:Sep E (A::L) w):Sep E L w:=⟨h.env,h.heap.drop⟩
theorem Sep.left {L':List Asn} (h:Sep E (L++L') w):Sep E L w:=⟨h.env,h.heap.append_left⟩
theorem Sep.star {A B:Asn} :Sep E (star A B::L) w↔Sep E (A::B::L) w:=by
 constructor
 ·rintro ⟨he,F,⟨F1,F2,h1,h2,h3,h4⟩,h5,h6⟩
  refine ⟨he,F1,h1,fun b hb=>h5 b ((h4 b).2 (.inl hb)),F2,h2,fun b hb=>⟨(h5 b ((h4 b).2 (.inr hb))).1,?_⟩,h6.weaken ?_⟩
  ·rintro (hu | hu)
   ·exact hu
   ·exact h3 b hu hb
  ·rintro b ((hu | hu) | hu)
   ·exact .inl hu
   ·exact .inr ((h4 b).2 (.inl hu))
   ·exact .inr ((h4 b).2 (.inr hu))
 ·rintro ⟨he,F1,h1,h2,F2,h3,h4,h5⟩
  refine ⟨he,fun b=>F1 b\/F2 b,⟨F1,F2,h1,h3,fun b hb hb'=>(h4 b hb').2 (.inr hb),fun _=>Iff.rfl⟩,fun b hb=> ?_,h5.weaken ?_⟩
  ·rcases hb with hb | hb
   ·exact h2 b hb
   ·exact ⟨(h4 b hb).1,fun hu=>hu⟩
  ·rintro b (hu | hu | hu)
   ·exact hu.elim
   ·exact .inl (.inr hu)
   ·exact .inr hu
theorem Sep.ex {α:Sort _} {f:α ->Asn} :Sep E (exA f::L) w↔∃ x,Sep E (f x::L) w:=by
 constructor
 ·rintro ⟨he,F,⟨x,hx⟩,h2,h3⟩;exact ⟨x,he,F,hx,h2,h3⟩
 ·rintro ⟨x,he,F,hx,h2,h3⟩;exact ⟨he,F,⟨x,hx⟩,h2,h3⟩
theorem Sep.pur {p:Prop} {A:Asn} :Sep E (pur p A::L) w↔p/\Sep E (A::L) w:=by
 constructor
 ·rintro ⟨he,F,⟨hp,hx⟩,h2,h3⟩;exact ⟨hp,he,F,hx,h2,h3⟩
 ·rintro ⟨hp,he,F,hx,h2,h3⟩;exact ⟨he,F,⟨hp,hx⟩,h2,h3⟩
theorem Sep.emp:Sep E (emp::L) w↔Sep E L w:=by
 constructor
 ·exact Sep.tail
 ·rintro ⟨he,h⟩;exact ⟨he,fun _=>False,fun _ h=>h,fun _ h=>h.elim,h.weaken (fun _ hb=>hb.elim id id)⟩
theorem Sep.block {b:Nat} {c:List Value} (h:Sep E (blk b c::L) w):∃ t z,w.heap[b]? =some (.cells c.toArray t z)/\thaw z c.length:=by
 obtain ⟨_,F,⟨h1,_⟩,_⟩:=h;exact h1
theorem Sep.objBlock {b:Nat} {o:Obj} (h:Sep E (objB b o::L) w):w.heap[b]? =some o:=by
 obtain ⟨_,F,⟨h1,_⟩,_⟩:=h;exact h1
theorem Sep.oldBlock {H:Array Obj} (h:Sep E (old H::L) w) (b:Nat) (hb:b<H.size):w.heap[b]? =H[b]? :=by
 obtain ⟨_,F,⟨h1,_⟩,_⟩:=h;exact h1 b hb
theorem Sep.cell {b:Nat} {c:List Value} (h:Sep E (blk b c::L) w) (o:Nat):w.cell? ⟨b,o,none⟩=c[o]? :=by
 obtain ⟨t,z,hz,_⟩:=h.block
 simp [World.cell?,hz]
theorem Sep.cellAt {b:Nat} {c:List Value} (i:Nat) (hi:L[i]? =some (blk b c)) (h:Sep E L w) (o:Nat):w.cell? ⟨b,o,none⟩=c[o]? :=by
 obtain ⟨Fs,g1,_⟩:=h.heap.fam
 obtain ⟨t,z,hz,_⟩:=(g1 i _ hi).1.1
 simp [World.cell?,hz]
theorem SepH.change {A A':Asn} {F F':Nat ->Prop} {h h':Array Obj} (hsz:h.size<=h'.size) (hold:∀ b,b<h.size ->¬ F b ->h'[b]? =h[b]?) (hA':A'.holds h' F') (hF':∀ b,F' b ->b<h'.size/\(F b\/h.size<=b)):
  ∀ {L:List Asn} {U:Nat ->Prop},(∀ b,F b ->U b) ->(∀ b,U b ->b<h.size) ->SepH L h U ->SepH L h' (fun b=>U b\/F' b)
 | [],_,_,_,_=>trivial
 | B::L,U,hFU,hU,⟨G,h1,h2,h3⟩=>by
  refine ⟨G,B.loc h1 (fun b hb=>hold b (h2 b hb).1 (fun hf=>(h2 b hb).2 (hFU b hf))),fun b hb=>⟨Nat.lt_of_lt_of_le (h2 b hb).1 hsz,?_⟩,?_⟩
  ·rintro (hu | hf)
   ·exact (h2 b hb).2 hu
   ·rcases (hF' b hf).2 with hf | hf
    ·exact (h2 b hb).2 (hFU b hf)
    ·exact absurd (h2 b hb).1 (Nat.not_lt.2 hf)
  ·have:=SepH.change (A:=A) hsz hold hA' hF' (L:=L) (U:=fun b=>U b\/G b) (fun b hb=> .inl (hFU b hb)) (fun b hb=>hb.elim (hU b) (fun hg=>(h2 b hg).1)) h3
   exact this.weaken (fun b hb=>by
    rcases hb with (hb | hb) | hb
    ·exact .inl (.inl hb)
    ·exact .inr hb
    ·exact .inl (.inr hb))
theorem Sep.change {A A':Asn} {w':World} (h:Sep E (A::L) w) (henv:World.env w'=World.env w) (hsz:w.heap.size<=w'.heap.size)
  (hch:∀ F,A.holds w.heap F ->(∀ b,F b ->b<w.heap.size) ->(∀ b,b<w.heap.size ->¬ F b ->w'.heap[b]? =w.heap[b]?)/\∃ F',A'.holds w'.heap F'/\∀ b,F' b ->b<w'.heap.size/\(F b\/w.heap.size<=b)):
  Sep E (A'::L) w':=by
 obtain ⟨he,F,h1,h2,h3⟩:=h
 obtain ⟨hold,F',hA',hF'⟩:=hch F h1 (fun b hb=>(h2 b hb).1)
 refine ⟨henv.trans he,F',hA',fun b hb=>⟨(hF' b hb).1,fun hu=>hu⟩,?_⟩
 have:=SepH.change (A:=A) hsz hold hA' hF' (L:=L) (U:=fun b=>False\/F b) (fun b hb=> .inr hb) (fun b hb=>hb.elim False.elim (fun hf=>(h2 b hf).1)) h3
 exact this.weaken (fun b hb=>by
  rcases hb with hb | hb
  ·exact hb.elim
  ·exact .inr hb)
theorem Sep.grow {w':World} (h:Sep E L w) (g:Grow w w'):Sep E L w':=by
 have h1:Sep E (Sp.emp::L) w:=Sep.emp.2 h
 refine Sep.emp.1 (h1.change (A':=Sp.emp) ?_ g.size (fun F hF _=>⟨fun b hb _=>g.heap b hb,F,hF,fun b hb=>(hF b hb).elim⟩))
 simp [World.env,g.os,g.tape,g.output]
theorem Sep.drew (h:Sep E L w):Sep E L w.drew:=h.grow (Grow.drew w)
theorem Sep.new {A':Asn} {w':World} (h:Sep E L w) (g:Grow w w') {F':Nat ->Prop} (hA':A'.holds w'.heap F') (hF':∀ b,F' b ->w.heap.size<=b/\b<w'.heap.size):Sep E (A'::L) w':=by
 have h1:Sep E (Sp.emp::L) w:=Sep.emp.2 h
 refine h1.change (A':=A') ?_ g.size (fun F hF _=>⟨fun b hb _=>g.heap b hb,F',hA',fun b hb=>⟨(hF' b hb).2,.inr (hF' b hb).1⟩⟩)
 simp [World.env,g.os,g.tape,g.output]
theorem heap_alloc (w:World) (o:Obj):(w.alloc o).heap[w.heap.size]? =some o:=by
 show (w.heap.push o)[w.heap.size]? =some o;simp
theorem size_alloc (w:World) (o:Obj):(w.alloc o).heap.size=w.heap.size+1:=by
 show (w.heap.push o).size=_;simp
theorem Sep.alloc (h:Sep E L w) (c:Array Value) (t:TypeId):Sep E (blk w.heap.size c.toList::L) (w.alloc (.cells c t)):=
 h.new (Grow.alloc w _) (F':=fun x=>x=w.heap.size) ⟨⟨t,(0,0),heap_alloc w _,fun _ _ h=>by omega⟩,fun _=>Iff.rfl⟩ (fun b hb=>by subst hb;rw [size_alloc];omega)
theorem Sep.allocM (h:Sep E L w) (es:Array MapEntry) (ck:Nat):Sep E (mapB w.heap.size es ck::L) (w.alloc (.map es ck)):=
 h.new (Grow.alloc w _) (F':=fun x=>x=w.heap.size) ⟨heap_alloc w _,fun _=>Iff.rfl⟩ (fun b hb=>by subst hb;rw [size_alloc];omega)
theorem Sep.allocO (h:Sep E L w) (o:Obj):Sep E (objB w.heap.size o::L) (w.alloc o):=
 h.new (Grow.alloc w _) (F':=fun x=>x=w.heap.size) ⟨heap_alloc w _,fun _=>Iff.rfl⟩ (fun b hb=>by subst hb;rw [size_alloc];omega)
theorem Sep.okCell {b:Nat} {c:List Value} (h:Sep E (blk b c::L) w) {o:Nat} (ho:o<c.length):Vc.okCell w ⟨b,o,none⟩:=by
 refine ⟨⟨c[o],?_⟩,?_⟩
 ·rw [h.cell o];simp [ho]
 ·obtain ⟨t,z,hz,ht⟩:=h.block
  simpa [World.frozen?,hz] using ht o ho
theorem Sep.setCell {b:Nat} {c:List Value} (h:Sep E (blk b c::L) w) (o:Nat) (v:Value):Sep E (blk b (c.set o v)::L) (w.setCell ⟨b,o,none⟩ v):=by
 obtain ⟨t,z,hb,ht⟩:=h.block
 refine h.change rfl (by simp [World.setCell]) (fun F hF hlt=>⟨fun x _ hx=> ?_,F,⟨?_,hF.2⟩,fun x hx=>⟨?_,.inl hx⟩⟩)
 ·have:b≠x:=fun e=>hx ((hF.2 x).2 e.symm)
  simp [World.setCell,Array.getElem?_modify,this]
 ·exact ⟨t,z,by simp [World.setCell,Array.getElem?_modify,hb],by simpa using ht⟩
 ·simpa [World.setCell] using hlt x hx
theorem St.i {b:Nat} {c:List Value} {v:Value} {f:World ->Prop} (h:Sep E (blk b c::L) w) {o:Nat} (ho:o<c.length)
  (k:∀ w1,Sep E (blk b (c.set o v)::L) w1 ->f w1):St ⟨b,o,none⟩ v f w:=⟨h.okCell ho,k _ (h.setCell o v)⟩
theorem Al.i {c:Array Value} {t:TypeId} {f:Addr ->World ->Prop} (h:Sep E L w) (k:∀ b w1,Sep E (blk b c.toList::L) w1 ->f ⟨b,0,none⟩ w1):Al (.cells c t) f w:=k _ _ (h.alloc c t)
theorem AlM.i {f:Nat ->World ->Prop} (h:Sep E L w) (k:∀ b w1,Sep E (mapB b #[] 0::L) w1 ->f b w1):AlM f w:=k _ _ (h.allocM _ _)
theorem Dr.i {f:World ->Prop} (h:Sep E L w) (k:∀ w1,Sep E L w1 ->f w1):Dr f w:=k _ h.drew
theorem DrG.i {f:World ->Prop} (h:Sep E L w) (k:∀ w1,Sep E L w1 ->f w1):DrG f w:=fun _ g=>k _ (h.grow g)
def starL:List Asn ->Asn
 | []=>emp
 | A::As=>star A (starL As)
theorem Sep.starL:∀ {As:List Asn} {L:List Asn},Sep E (starL As::L) w↔Sep E (As++L) w
 | [],_=>Sep.emp
 | A::As,L=>by
  refine Sep.star.trans ⟨fun h=> ?_,fun h=> ?_⟩
  ·have h1:=Sep.starL.1 h.swap
   exact ⟨h1.env,SepH.front h1.heap⟩
  ·refine Sep.swap (Sep.starL.2 (h.perm ?_))
   exact (List.perm_middle).symm
end
end Go.Sp
end
