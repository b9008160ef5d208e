/- Part of a proof about the core: of its walks and plain laws. -/
import Derived.Test.YtkjijachkcmelaaGreatDoorC01
import Derived.Deep.AppendSrc
import Derived.Laws.MakeOwn
import Derived.Laws.IdiomStrings
import Derived.Stop.BytesEq
import Derived.Laws.StructEq
import Derived.MapKept
import Derived.Tactics
set_option linter.all false
section
namespace Go.Sp
open Go Go.Vc
@[simp] theorem aad (b o n:Nat):(⟨b,o,none⟩:Addr).add n=⟨b,o+n,none⟩:=by
 unfold Addr.add;split
 ·subst_vars;rfl
 ·rfl
theorem bifI {b:Bool} {A B:Prop} (h1:b=true ->A) (h2:b=false ->B):bif b then A else B:=by
 cases b
 ·exact h2 rfl
 ·exact h1 rfl
theorem bifT {A B:Prop} (h:A):bif true then A else B:=h
theorem bifF {A B:Prop} (h:B):bif false then A else B:=h
theorem use {P:Program} {f:FuncId} {args:Array Value} {w:World} {K:Value ->World ->Prop} {R:Ending ->World ->Prop} (h:Calls P f args w (Ret K)) (k:∀ v w',K v w' ->R (.returned v) w'):Calls P f args w R:=
 h.mono fun e w' ⟨v,he,hk⟩=>by subst he;exact k v w' hk
theorem w64 {n:Int} (h1: -9223372036854775808<=n) (h2:n<=9223372036854775807):IntKind.i64.wrap n=n:=by
 unfold IntKind.wrap
 simp only [IntKind.signed,IntKind.bits,Bool.true_and]
 by_cases hc:n % 2 ^ 64≥2 ^ (64 - 1)
 ·rw [if_pos (by simpa using hc)];omega
 ·rw [if_neg (by simpa using hc)];omega
def acf (c:List Value) (o:Nat):List Value ->List Value
 | []=>c
 | v::r=>acf (c.set o v) (o+1) r
@[simp] theorem aAp:∀ (vs:List Value) (c:List Value) (o:Nat),(acf c o vs).length=c.length
 | [],_,_=>rfl
 | v::r,c,o=>by rw [acf,aAp r];simp
theorem axo:∀ (vs:List Value) (c:List Value) (o i:Nat),(acf c o vs)[i]? =if o<=i/\i<o+vs.length/\i<c.length then vs[i - o]? else c[i]?
 | [],c,o,i=>by
  have:¬ (o<=i/\i<o+0/\i<c.length):=by omega
  simp only [acf,List.length_nil,if_neg this]
 | v::r,c,o,i=>by
  rw [acf,axo r]
  simp only [List.length_set,List.length_cons,List.getElem?_set]
  by_cases h1:o=i
  ·subst h1
   by_cases h2:o<c.length
   ·have:¬ (o+1<=o/\o<o+1+r.length/\o<c.length):=by omega
    rw [if_neg this,if_pos rfl,if_pos h2,if_pos (by omega)];simp
   ·have:¬ (o+1<=o/\o<o+1+r.length/\o<c.length):=by omega
    rw [if_neg this,if_pos rfl,if_neg h2,if_neg (by omega)]
    simp;omega
  ·rw [if_neg h1]
   by_cases h2:o+1<=i/\i<o+1+r.length/\i<c.length
   ·rw [if_pos h2,if_pos (by omega)]
    rw [show i - o=(i - (o+1))+1 by omega];simp
   ·rw [if_neg h2,if_neg (by omega)]
theorem aft:∀ (vs c:List Value) (o:Nat),o+vs.length<=c.length ->acf c o vs=c.take o++vs++c.drop (o+vs.length):=by
 intro vs c o hl
 apply List.ext_getElem?
 intro i
 rw [axo]
 by_cases h1:o<=i/\i<o+vs.length/\i<c.length
 ·rw [if_pos h1,List.append_assoc,List.getElem?_append_right (by simp;omega),List.getElem?_append_left (by simp;omega)]
  simp [show min o c.length=o by omega]
 ·rw [if_neg h1]
  by_cases h2:i<o
  ·rw [List.append_assoc,List.getElem?_append_left (by simp;omega)];simp [h2]
  ·by_cases h3:i<c.length
   ·rw [List.getElem?_append_right (by simp;omega)]
    simp only [List.length_append,List.length_take,List.getElem?_drop]
    congr 1;omega
   ·rw [List.getElem?_eq_none (by omega),List.getElem?_eq_none (by simp;omega)]
section
variable {E:Env} {L:List Asn} {w:World} {P:Program}
theorem Sep.setCells {b:Nat} :∀ (vs:List Value) {c:List Value} {w:World} (_:Sep E (blk b c::L) w) (o:Nat),Sep E (blk b (acf c o vs)::L) (w.setCells b o vs)
 | [],_,_,h,_=>h
 | v::r,_,_,h,o=>Sep.setCells r (h.setCell o v) (o+1)
theorem Sep.isSome {b:Nat} {c:List Value} (h:Sep E (blk b c::L) w) {o:Nat} (ho:o<c.length):(w.cell? ⟨b,o,none⟩).isSome=true:=by
 rw [h.cell o];simp [ho]
theorem Sep.warm {b:Nat} {c:List Value} (h:Sep E (blk b c::L) w) {o:Nat} (ho:o<c.length):w.frozen? ⟨b,o,none⟩=false:=(h.okCell ho).2
theorem axp (b:Nat):∀ (vs:List Value) (w:World) (o i:Nat),amc w ⟨b,o,none⟩ i vs=w.setCells b (o+i) vs
 | [],_,_,_=>rfl
 | v::r,w,o,i=>by rw [amc,aad,axp b r,World.setCells];rfl
theorem St.j {b:Nat} {c:List Value} {v:Value} {f:World ->Prop} {o n:Nat} (h:Sep E (blk b c::L) w) (ho:o+n<c.length)
  (k:∀ w1,Sep E (blk b (c.set (o+n) v)::L) w1 ->f w1):St ((⟨b,o,none⟩:Addr).add n) v f w:=by
 rw [aad];exact St.i h ho k
theorem StN.i {b:Nat} {c:List Value} {f:World ->Prop} {o:Nat} {vs:List Value} (h:Sep E (blk b c::L) w) (hl:o+vs.length<=c.length)
  (k:∀ w1,Sep E (blk b (acf c o vs)::L) w1 ->f w1):StN vs ⟨b,o,none⟩ f w:=by
 have go:∀ (vs:List Value) (i:Nat) {c:List Value} {w:World} (_:Sep E (blk b c::L) w) (_:o+i+vs.length<=c.length) (_:∀ w1,Sep E (blk b (acf c (o+i) vs)::L) w1 ->f w1),stN vs ⟨b,o,none⟩ i w f:=by
  intro vs
  induction vs with
  | nil=>intro i c w h _ k;exact k _ h
  | cons v r ih=>
   intro i c w h hl k
   simp only [List.length_cons] at hl
   refine ⟨by rw [aad];exact h.okCell (by omega),?_⟩
   rw [aad]
   refine ih (i+1) (h.setCell (o+i) v) (by simp;omega) (fun w1 h1=>k w1 h1)
 exact go vs 0 h hl k
theorem axx.i {b:Nat} {c:List Value} {f:World ->Prop} {o n:Nat} {k:IntKind} {v:Value} (ys:List Int) (h:Sep E (blk b c::L) w) (hv:v= .agg (ys.map (Value.int k)).toArray) (hn:ys.length=n) (hl:o+n<=c.length)
  (kk:∀ w1,Sep E (blk b (acf c o (ys.map (Value.int k)))::L) w1 ->f w1):axx n k v ⟨b,o,none⟩ w f:=by
 refine ⟨ys,hv,hn,fun i hi=> ?_,?_⟩
 ·rw [aad];exact h.okCell (by omega)
 ·rw [axp];exact kk _ (h.setCells _ _)
def slQ (P:Program) (t:TypeId):Option (Nat×Nat×List Value):=
 match P.underlying t with
 | some (.slice e)=>match P.info? e with
  | some i=>match i.zero with
   | some z=>some (i.bytes,i.size,z.cells.toList)
   | none=>none
  | none=>none
 | _=>none
theorem aoF {t:TypeId} {by_ sz:Nat} {zs:List Value} (h:slQ P t=some (by_,sz,zs)):∃ e i z,P.underlying t=some (.slice e)/\P.info? e=some i/\i.zero=some z/\i.bytes=by_/\i.size=sz/\z.cells.toList=zs:=by
 unfold slQ at h
 split at h
 ·next e he=>
  split at h
  ·next i hi=>
   split at h
   ·next z hz=>simp only [Option.some.injEq,Prod.mk.injEq] at h;exact ⟨e,i,z,he,hi,hz,h.1,h.2.1,h.2.2⟩
   ·simp at h
  ·simp at h
 ·simp at h
def bsQ (P:Program) (t:TypeId):Bool:=
 match P.underlying t with
 | some (.slice e)=>match P.underlying e with
  | some (.int .u8)=>true
  | _=>false
 | _=>false
theorem aAQ {t:TypeId} (h:bsQ P t=true):∃ e,P.underlying t=some (.slice e)/\P.underlying e=some (.int .u8):=by
 unfold bsQ at h
 split at h
 ·next e he=>
  split at h
  ·next h2=>exact ⟨e,he,h2⟩
  ·simp at h
 ·simp at h
theorem aFz {t:TypeId} (h:akM P t=true):P.underlying t=some .string:=by
 unfold akM at h
 split at h
 ·assumption
 ·simp at h
theorem makeSlice.i (h:Sep E L w) {t:TypeId} {by_ sz:Nat} {zs:List Value} (hq:slQ P t=some (by_,sz,zs)) {kl kc:IntKind} {l c:Int} (h0:0<=l) (hlc:l<=c)
  (hb:(by_:Int)*c<=281474976710656) (h63:c<=9223372036854775807) {G:Sl ->World ->Prop}
  (k:∀ b w1,Sep E (blk b ((List.range (c.toNat*sz)).map fun i=>(zs.toArray)[i % zs.length]!)::L) w1 ->G ⟨some ⟨b,0,none⟩,l.toNat,c.toNat⟩ w1):
  ∃ x:Sl,∃ w1,Sem.run P (Instr.makeSlice t (.int kl l) (.int kc c)) w= .ok (.slice x.p x.n x.c) w1/\G x w1:=by
 obtain ⟨e,i,z,ht,hi,hz,hb',hs,hzs⟩:=aoF hq
 subst hb' hs hzs
 have:=h.alloc (madeCells z.cells (c.toNat*i.size)) e
 refine ⟨⟨_,_,_⟩,_,run_make w t e i z ht hi hz kl kc l c h0 hlc hb h63,k _ _ ?_⟩
 simpa [madeCells] using this
def u8s (l:List UInt8):List Value:=l.map fun b=>Value.int .u8 b.toNat
@[simp] theorem aoH (l:List UInt8) (i:Nat):(u8s l)[i]? =l[i]?.map fun b=>Value.int .u8 b.toNat:=by simp [u8s]
@[simp] theorem aEw (l:List UInt8):(u8s l).length=l.length:=by simp [u8s]
theorem makeBytes.i (h:Sep E L w) {t:TypeId} {by_ sz m:Nat} (hq:slQ P t=some (by_,sz,u8s (List.replicate m 0))) (hm:0<m) {kl kc:IntKind} {l:Int} (h0:0<=l)
  (hb:(by_:Int)*l<=281474976710656) (h63:l<=9223372036854775807) {G:Sl ->World ->Prop}
  (k:∀ b w1,Sep E (blk b (u8s (List.replicate (l.toNat*sz) 0))::L) w1 ->G ⟨some ⟨b,0,none⟩,l.toNat,l.toNat⟩ w1):
  ∃ x:Sl,∃ w1,Sem.run P (Instr.makeSlice t (.int kl l) (.int kc l)) w= .ok (.slice x.p x.n x.c) w1/\G x w1:=by
 refine makeSlice.i h hq h0 (Int.le_refl _) hb h63 (fun b w1 h1=>k b w1 ?_)
 have:((List.range (l.toNat*sz)).map fun i=>((u8s (List.replicate m 0)).toArray)[i % (u8s (List.replicate m 0)).length]!)=u8s (List.replicate (l.toNat*sz) 0):=by
  apply List.ext_getElem?
  intro i
  simp only [List.getElem?_map,aEw,List.length_replicate,aoH]
  have hlt:i % m<m:=Nat.mod_lt _ hm
  by_cases hi:i<l.toNat*sz
  ·simp [hi,u8s,hlt]
  ·simp [hi]
 rw [this] at h1;exact h1
theorem toStr.i (l:List UInt8) {b o n c:Nat} {C:List Value} {s d:TypeId} (m:Nat) (h:Sep E L w) (hi:L[m]? =some (blk b C)) (hs:bsQ P s=true) (hd:akM P d=true)
  (hn:l.length=n) (hc:∀ j (hj:j<l.length),C[o+j]? =some (.int .u8 (l[j].toNat:Int))) {G:ByteArray ->World ->Prop} (k:G ⟨l.toArray⟩ w):
  ∃ x:ByteArray,∃ w1,Sem.run P (convert s d (.slice (some ⟨b,o,none⟩) n c)) w= .ok (.string x) w1/\G x w1:=by
 subst hn
 obtain ⟨e,h1,h2⟩:=aAQ hs
 exact ⟨_,_,run_convert_bytes_back w s d e ⟨b,o,none⟩ c l h1 h2 (aFz hd) (fun j hj=>by rw [aad,h.cellAt m hi];exact hc j hj),k⟩
theorem copyStr.i {b o n c:Nat} {C:List Value} {s:ByteArray} {dt st ty:TypeId} {by_:Nat} {zs:List Value} (h:Sep E (blk b C::L) w) (hq:slQ P dt=some (by_,1,zs)) (hn:s.size=n) (hC:o+n<=C.length) {G:Int ->World ->Prop}
  (k:∀ w1,Sep E (blk b (acf C o (byteCells s))::L) w1 ->G (n:Int) w1):
  ∃ x:Int,∃ w1,Sem.run P (Builtin.copy_ #[dt,st] ty #[.slice (some ⟨b,o,none⟩) n c,.string s]) w= .ok (.int .i64 x) w1/\G x w1:=by
 subst hn
 obtain ⟨e,i,z,ht,hi,hz,hb',hs1,hzs⟩:=aoF hq
 have hl:(byteCells s).length=s.size:=byteCells_length s
 have hst:=run_storeCells_cells (P:=P) b o (byteCells s) 0 w (fun j hj=>h.isSome (by omega)) (fun j hj=>h.warm (by omega)) (fun u hu=>by
  obtain ⟨_,_,rfl⟩:=List.mem_map.1 hu;rfl)
 refine ⟨(s.size:Int),w.setCells b o (byteCells s),?_,k _ (h.setCells _ _)⟩
 have hf:=firstCells_string (P:=P) s w
 simp only [Nat.add_zero] at hst
 simp [Builtin.copy_,run_underlying ht,Builtin.lenOf,sizeOf,typeInfo,hi,hs1,hf,hst,goInt]
theorem append.i {b o n c:Nat} {C:List Value} {x:Value} {k:Nat} {news:List Value} {st xt ty:TypeId} {by_ sz:Nat} {zs:List Value} (h:Sep E (blk b C::L) w) (hq:slQ P st=some (by_,sz,zs)) (hs:Src P sz xt x k news w)
  (hC:o+n*sz<=C.length) (hroomC:n+k<=c ->o+(n+k)*sz<=C.length)
  (h63:((n+k:Nat):Int)<=9223372036854775807) (hfit:c<n+k ->Builtin.nextslicecap (n+k) c*by_<=281474976710656) {G:Sl ->World ->Prop}
  (k1:n+k<=c ->∀ w1,Sep E (blk b (acf C (o+n*sz) news)::L) w1 ->G ⟨some ⟨b,o,none⟩,n+k,c⟩ w1)
  (k2:c<n+k ->∀ b' c' w1,n+k<=c' ->Sep E (blk b' ((C.drop o).take (n*sz)++news++(Builtin.zeroCells zs.toArray (c' - (n+k))).toList)::blk b C::L) w1 ->G ⟨some ⟨b',0,none⟩,n+k,c'⟩ w1):
  ∃ x1:Sl,∃ w1,Sem.run P (Builtin.append_ #[st,xt] ty #[.slice (some ⟨b,o,none⟩) n c,x]) w= .ok (.slice x1.p x1.n x1.c) w1/\G x1 w1:=by
 obtain ⟨e,i,z,ht,hi,hz,hb',hs1,hzs⟩:=aoF hq
 subst hb' hs1 hzs
 by_cases hr:n+k<=c
 ·have hl:=hs.newsLen
  have hsz:=hroomC hr
  rw [Nat.add_mul] at hsz
  exact ⟨⟨_,_,_⟩,_,run_append_room_src w st xt ty e i ht hi b o n c x k news hs hr (fun j hj=>h.isSome (by omega)) (fun j hj=>h.warm (by omega)),k1 hr _ (h.setCells _ _)⟩
 ·have hr':c<n+k:=by omega
  let olds:List Value:=(C.drop o).take (n*i.size)
  have hlo:olds.length=n*i.size:=by simp [olds];omega
  have hold:(Builtin.firstCells i.size n (.slice (some ⟨b,o,none⟩) n c)).run P w.drew= .ok olds.toArray w.drew:=by
   refine run_firstCells_some w.drew i.size n ⟨b,o,none⟩ n c olds hlo (fun j v hj=> ?_)
   have hjl:j<n*i.size:=by
    rcases Nat.lt_or_ge j (n*i.size) with h' | h'
    ·exact h'
    ·simp [List.getElem?_eq_none (show olds.length<=j by omega)] at hj
   rw [aad,h.drew.cell]
   rw [<- hj];simp [olds,hjl]
  have hg:=run_append_grow_src w st xt ty e i z ht hi hz (some ⟨b,o,none⟩) n c olds hold x k news hs hr' h63 (hfit hr')
  refine ⟨⟨_,_,_⟩,_,hg,?_⟩
  refine k2 hr' w.heap.size (grownCap w (n+k) c e) _ ?_ ?_
  ·show n+k<=n+k+_;omega
  ·have:=h.drew.alloc ((olds++news).toArray++Builtin.zeroCells z.cells (grownCap w (n+k) c e - (n+k))) e
   simpa [olds] using this
theorem appendNil.i {c:Nat} {x:Value} {k:Nat} {news:List Value} {st xt ty:TypeId} {by_ sz:Nat} {zs:List Value} (h:Sep E L w) (hq:slQ P st=some (by_,sz,zs)) (hs:Src P sz xt x k news w)
  (hc:c<k) (h63:(k:Int)<=9223372036854775807) (hfit:Builtin.nextslicecap k c*by_<=281474976710656) {G:Sl ->World ->Prop}
  (k2:∀ b' c' w1,k<=c' ->Sep E (blk b' (news++(Builtin.zeroCells zs.toArray (c' - k)).toList)::L) w1 ->G ⟨some ⟨b',0,none⟩,k,c'⟩ w1):
  ∃ x1:Sl,∃ w1,Sem.run P (Builtin.append_ #[st,xt] ty #[.slice none 0 c,x]) w= .ok (.slice x1.p x1.n x1.c) w1/\G x1 w1:=by
 obtain ⟨e,i,z,ht,hi,hz,hb',hs1,hzs⟩:=aoF hq
 subst hb' hs1 hzs
 have hold:(Builtin.firstCells i.size 0 (.slice none 0 c)).run P w.drew= .ok ([]:List Value).toArray w.drew:=run_firstCells_none w.drew i.size 0 0 c
 have hg:=run_append_grow_src w st xt ty e i z ht hi hz none 0 c [] hold x k news hs (by omega) (by simpa using h63) (by simpa using hfit)
 refine ⟨⟨_,_,_⟩,_,hg,?_⟩
 have e0:0+k=k:=Nat.zero_add k
 rw [e0]
 refine k2 w.heap.size (grownCap w k c e) _ ?_ ?_
 ·show k<=k+_;omega
 ·have:=h.drew.alloc (news.toArray++Builtin.zeroCells z.cells (grownCap w k c e - k)) e
  simpa using this
end
end Go.Sp
end
section
namespace Go.Sp
open Go Go.Vc
inductive LK where
 | int (k:IntKind) | bool | str
def LK.ok:LK ->Value ->Prop
 | .int k,v=>∃ n,v= .int k n
 | .bool,v=>∃ b,v= .bool b
 | .str,v=>∃ s,v= .string s
def eqGo (P:Program) (rec_:TypeId ->Option (List LK)):List Field ->Nat ->Option (List LK)
 | [],_=>some []
 | f::fs,o=>match f.name== "_",Nat.beq f.offset o,rec_ f.type with
  | false,true,some l=>match szQ P f.type with
   | some n=>match Nat.beq n l.length with
    | true=>match eqGo P rec_ fs (o+l.length) with
     | some r=>some (l++r)
     | none=>none
    | false=>none
   | none=>none
  | _,_,_=>none
def eqT (P:Program):Nat ->TypeId ->Option (List LK)
 | 0,_=>none
 | d+1,t=>match P.underlying t with
  | some (.int k)=>some [.int k]
  | some .bool=>some [.bool]
  | some .string=>some [.str]
  | some (.struct fs)=>match P.stoodInHeld t with
   | true=>none
   | false=>eqGo P (eqT P d) fs.toList 0
  | _=>none
def Cells:List LK ->List Value ->Prop
 | [],[]=>True
 | k::ks,v::vs=>k.ok v/\Cells ks vs
 | _,_=>False
theorem Cells.length:∀ {l:List LK} {vs:List Value},Cells l vs ->vs.length=l.length
 | [],[],_=>rfl
 | _::_,_::_,h=>by simp [Cells.length h.2]
 | [],_::_,h=>h.elim
 | _::_,[],h=>h.elim
theorem Cells.append:∀ {l r:List LK} {vs:List Value},Cells (l++r) vs ->Cells l (vs.take l.length)/\Cells r (vs.drop l.length)
 | [],_,_,h=>⟨trivial,h⟩
 | _::_,_,_::_,h=>⟨⟨h.1,(Cells.append h.2).1⟩,(Cells.append h.2).2⟩
 | _::_,_,[],h=>h.elim
def Typed (P:Program) (t:TypeId) (l:List LK) (v:Value):Prop:=
 match aggQ P t with
 | some true=>∃ cs:Array Value,v= .agg cs/\Cells l cs.toList
 | _=>Cells l [v]
section
variable {P:Program}
theorem aGO {t:TypeId} {n:Nat} (h:szQ P t=some n):∃ i,P.info? t=some i/\i.size=n:=by
 unfold szQ at h
 cases hi:P.info? t with
 | none=>simp [hi] at h
 | some i=>simp [hi] at h;exact ⟨i,rfl,h⟩
theorem ayd {l:LK} {a b:Value} (ha:l.ok a) (hb:l.ok b) {t:TypeId} (d:Nat) (ht:(match l with | .int k=>P.underlying t=some (.int k) | .bool=>P.underlying t=some .bool | .str=>P.underlying t=some .string)) (w:World):
  ∃ r,(Op.equalIn (d+1) t a b).run P w= .ok r w/\(r=true↔a=b):=by
 cases l with
 | int k=>
  obtain ⟨x,rfl⟩:=ha;obtain ⟨y,rfl⟩:=hb
  exact ⟨x==y,run_equalIn_int w d t k k x y ht,by simp⟩
 | bool=>
  obtain ⟨x,rfl⟩:=ha;obtain ⟨y,rfl⟩:=hb
  exact ⟨x==y,run_equalIn_bool w d t x y ht,by simp⟩
 | str=>
  obtain ⟨x,rfl⟩:=ha;obtain ⟨y,rfl⟩:=hb
  refine ⟨x.toList==y.toList,run_equalIn_string w d t x y ht,?_⟩
  rw [<- beq_toListBytes,MapKept.bytes_beq];simp
theorem auL {t:TypeId} {d:TypeDesc} (h:P.underlying t=some d) (h1:∀ fs,d≠ .struct fs) (h2:∀ n e,d≠ .array n e):aggQ P t=some false:=by
 unfold aggQ;rw [h]
 cases d<;>simp_all
theorem avJ {t:TypeId} {l r:List LK} {n:Nat} {xs:Array Value} {o:Nat} (hs:szQ P t=some n) (hn:n=l.length) (hag:aggQ P t≠none) (h1:aggQ P t=some false ->l.length=1) (hc:Cells (l++r) (xs.toList.drop o)) (w:World):
  ∃ v,(part t xs o).run P w= .ok v w/\Typed P t l v/\v.cells.toList=(xs.toList.drop o).take l.length/\(aggQ P t=some false ->xs.toList.drop o=v::xs.toList.drop (o+1)):=by
 obtain ⟨i,hi,hsz⟩:=aGO hs
 obtain ⟨hl,_⟩:=hc.append
 cases hq:aggQ P t with
 | none=>exact absurd hq hag
 | some b=>cases b with
  | true=>
   have hagg:(isAgg t).run P w= .ok true w:=by
    unfold aggQ at hq
    cases hu:P.underlying t with
    | none=>simp [hu] at hq
    | some d=>cases d<;>simp [hu] at hq<;>simp [isAgg,run_underlying hu]
   refine ⟨.agg (xs.extract o (o+n)),?_,?_,?_,fun h=>by simp at h⟩
   ·simp [part,hagg,sizeOf,typeInfo,hi,hsz]
   ·unfold Typed;rw [hq]
    refine ⟨_,rfl,?_⟩
    have:(xs.extract o (o+n)).toList=(xs.toList.drop o).take l.length:=by
     rw [Array.toList_extract,List.extract,hn];simp
    rw [this];exact hl
   ·show (xs.extract o (o+n)).toList=_
    rw [Array.toList_extract,List.extract,hn];simp
  | false=>
   have hagg:(isAgg t).run P w= .ok false w:=by
    unfold aggQ at hq
    cases hu:P.underlying t with
    | none=>simp [hu] at hq
    | some d=>cases d<;>simp [hu] at hq<;>simp [isAgg,run_underlying hu]
   have hl1:=h1 hq
   have hlen:=hc.length
   simp only [List.length_append,List.length_drop,Array.length_toList] at hlen
   have ho:o<xs.size:=by omega
   have hd:xs.toList.drop o=xs[o]::xs.toList.drop (o+1):=by
    rw [List.drop_eq_getElem_cons (by simpa using ho)];simp
   rw [hl1,hd] at hl
   have hcell:Cells l [xs[o]]:=by simpa using hl
   have hleaf:xs[o].cells.toList= [xs[o]]:=by
    cases l with
    | nil=>simp at hl1
    | cons k ks=>
     have:=hcell.1
     cases k<;>(obtain ⟨_,h⟩:=this;rw [h];rfl)
   refine ⟨xs[o],?_,?_,?_,fun _=>hd⟩
   ·simp [part,hagg,ho]
   ·unfold Typed;rw [hq];exact hcell
   ·rw [hleaf,hl1,hd];simp
theorem aDy {d:Nat} {t:TypeId} {l:List LK} (h:eqT P d t=some l):aggQ P t≠none/\(aggQ P t=some false ->l.length=1):=by
 cases d with
 | zero=>simp [eqT] at h
 | succ d=>
  unfold eqT at h
  unfold aggQ
  cases hu:P.underlying t with
  | none=>simp [hu] at h
  | some x=>cases x<;>simp [hu] at h<;>simp<;>(try subst h)<;>rfl
theorem aun:∀ (d:Nat) (t:TypeId) (l:List LK),eqT P d t=some l ->∀ (D:Nat),d<=D ->∀ (a b:Value),Typed P t l a ->Typed P t l b ->∀ w,∃ r,(Op.equalIn D t a b).run P w= .ok r w/\(r=true↔a=b):=by
 intro d
 induction d with
 | zero=>intro t l h;simp [eqT] at h
 | succ d ih=>
  intro t l h D hD a b ha hb w
  obtain ⟨D,rfl⟩:∃ D',D=D'+1:=⟨D - 1,by omega⟩
  unfold eqT at h
  cases hu:P.underlying t with
  | none=>simp [hu] at h
  | some x=>
   cases x<;>simp only [hu] at h<;>try (simp at h;done)
   case bool=>
    simp only [Option.some.injEq] at h;subst h
    have hq:=auL hu (by simp) (by simp)
    unfold Typed at ha hb;rw [hq] at ha hb
    exact ayd (l:= .bool) ha.1 hb.1 D hu w
   case int k=>
    simp only [Option.some.injEq] at h;subst h
    have hq:=auL hu (by simp) (by simp)
    unfold Typed at ha hb;rw [hq] at ha hb
    exact ayd (l:= .int k) ha.1 hb.1 D hu w
   case string=>
    simp only [Option.some.injEq] at h;subst h
    have hq:=auL hu (by simp) (by simp)
    unfold Typed at ha hb;rw [hq] at ha hb
    exact ayd (l:= .str) ha.1 hb.1 D hu w
   case struct fs=>
    cases hst:P.stoodInHeld t with
    | true=>simp [hst] at h
    | false=>
     simp only [hst] at h
     have hq:aggQ P t=some true:=by unfold aggQ;rw [hu]
     unfold Typed at ha hb;rw [hq] at ha hb
     obtain ⟨xs,rfl,hx⟩:=ha
     obtain ⟨ys,rfl,hy⟩:=hb
     have hf:P.fieldsOf t=fs:=by simp [Program.fieldsOf,hu]
     have e1:=run_equalIn_struct (P:=P) w D t xs ys (by rw [hf];exact hu) hst
     rw [hf] at e1
     rw [e1]
     have key:∀ (fl:List Field) (o:Nat) (l:List LK),eqGo P (eqT P d) fl o=some l ->Cells l (xs.toList.drop o) ->Cells l (ys.toList.drop o) ->∃ r,(Op.eqFields D xs ys fl).run P w= .ok r w/\(r=true↔xs.toList.drop o=ys.toList.drop o):=by
      intro fl
      induction fl with
      | nil=>
       intro o l hl h1 h2
       simp only [eqGo,Option.some.injEq] at hl;subst hl
       have e1:=h1.length;have e2:=h2.length
       refine ⟨true,by simp [Op.eqFields],?_⟩
       simp only [List.length_nil] at e1 e2
       simp [List.eq_nil_of_length_eq_zero e1,List.eq_nil_of_length_eq_zero e2]
      | cons f fl ihf=>
       intro o l hl h1 h2
       unfold eqGo at hl
       split at hl
       ·next l1 hn ho hl1=>
        split at hl
        ·next n hs=>
         split at hl
         ·next hnl=>
          split at hl
          ·next r hr=>
           simp only [Option.some.injEq] at hl;subst hl
           have hn':f.name≠ "_" :=by simpa using hn
           have ho':=Nat.eq_of_beq_eq_true ho
           have hnl':=Nat.eq_of_beq_eq_true hnl
           obtain ⟨q1,q2⟩:=aDy hl1
           obtain ⟨va,pa,ta,ca,_⟩:=avJ hs hnl' q1 q2 h1 w
           obtain ⟨vb,pb,tb,cb,_⟩:=avJ hs hnl' q1 q2 h2 w
           obtain ⟨r1,er1,hr1⟩:=ih f.type l1 hl1 D (by omega) va vb ta tb w
           have d1:=h1.append.2
           have d2:=h2.append.2
           rw [List.drop_drop] at d1 d2
           obtain ⟨r2,er2,hr2⟩:=ihf (o+l1.length) r hr d1 d2
           have hcells:va=vb↔(xs.toList.drop o).take l1.length=(ys.toList.drop o).take l1.length:=by
            rw [<- ca,<- cb]
            constructor
            ·intro e;rw [e]
            ·intro e
             unfold Typed at ta tb
             cases hq:aggQ P f.type with
             | none=>exact absurd hq q1
             | some bb=>cases bb with
              | true=>
               rw [hq] at ta tb
               obtain ⟨u1,rfl,_⟩:=ta
               obtain ⟨u2,rfl,_⟩:=tb
               have:u1.toList=u2.toList:=e
               rw [Array.toList_inj.1 this]
              | false=>
               rw [hq] at ta tb
               have one:∀ {v:Value},Cells l1 [v] ->v.cells.toList= [v]:=by
                intro v hv
                cases l1 with
                | nil=>exact hv.elim
                | cons k ks=>
                 have:=hv.1
                 cases k<;>(obtain ⟨_,h⟩:=this;rw [h];rfl)
               rw [one ta,one tb] at e
               simpa using e
           have hsplit:(xs.toList.drop o=ys.toList.drop o)↔(va=vb/\xs.toList.drop (o+l1.length)=ys.toList.drop (o+l1.length)):=by
            rw [hcells,<- List.drop_drop,<- List.drop_drop]
            constructor
            ·intro e;rw [e];exact ⟨rfl,rfl⟩
            ·rintro ⟨e1,e2⟩
             rw [<- List.take_append_drop l1.length (xs.toList.drop o),e1,e2,List.take_append_drop]
           subst ho'
           cases r1 with
           | false=>
            refine ⟨false,?_,?_⟩
            ·simp [Op.eqFields,hn',pa,pb,er1]
            ·rw [hsplit]
             constructor
             ·intro h;cases h
             ·intro h;exact absurd (hr1.2 h.1) (by simp)
           | true=>
            refine ⟨r2,?_,?_⟩
            ·simp only [Op.eqFields,if_pos hn',Sem.run_bind,pa,pb,er1,Result.andThen_ok]
             simpa using er2
            ·rw [hsplit,hr2]
             exact ⟨fun h=>⟨hr1.1 rfl,h⟩,fun h=>h.2⟩
          ·simp at hl
         ·simp at hl
        ·simp at hl
       ·simp at hl
     obtain ⟨r,hr,hiff⟩:=key fs.toList 0 l h (by simpa using hx) (by simpa using hy)
     refine ⟨r,hr,?_⟩
     rw [hiff]
     simp only [List.drop_zero,Value.agg.injEq]
     exact Array.toList_inj
theorem EqV.neq {d:Nat} {t:TypeId} {l:List LK} (hq:eqT P d t=some l) (hd:d<=10000) (hg:P.eqGuardType P.depth t=false) (hag:aggQ P t=some true) {a b:Value} (ha:Typed P t l a) (hb:Typed P t l b):∃ r,EqV P .neq t a b r/\(r=false↔a=b):=by
 have key:=aun d t l hq 10000 hd a b ha hb
 unfold Typed at ha hb;rw [hag] at ha hb
 obtain ⟨xs,rfl,_⟩:=ha
 obtain ⟨ys,rfl,_⟩:=hb
 obtain ⟨r,_,hr⟩:=key default
 refine ⟨!r,⟨fun ox oy w=>by simp [eqGuard,hg],fun w=> ?_⟩,by cases r<;>simp_all⟩
 obtain ⟨r',h1,hr'⟩:=key w
 have:r'=r:=by cases r<;>cases r'<;>simp_all
 subst this
 rw [run_neq_struct,h1];rfl
theorem aCF (e:Bool):∀ (d:Nat) (t:TypeId) (l:List LK),eqT P d t=some l ->∀ (D:Nat),d<=D ->∀ (a:Value),Typed P t l a ->∀ w,(Instr.checkKey e D t a).run P w= .ok () w:=by
 intro d
 induction d with
 | zero=>intro t l h;simp [eqT] at h
 | succ d ih=>
  intro t l h D hD a ha w
  obtain ⟨D,rfl⟩:∃ D',D=D'+1:=⟨D - 1,by omega⟩
  unfold eqT at h
  cases hu:P.underlying t with
  | none=>simp [hu] at h
  | some x=>
   cases x<;>simp only [hu] at h<;>try (simp at h;done)
   case bool=>simp [Instr.checkKey,run_underlying hu]
   case int k=>simp [Instr.checkKey,run_underlying hu]
   case string=>simp [Instr.checkKey,run_underlying hu]
   case struct fs=>
    cases hst:P.stoodInHeld t with
    | true=>simp [hst] at h
    | false=>
     simp only [hst] at h
     have hq:aggQ P t=some true:=by unfold aggQ;rw [hu]
     unfold Typed at ha;rw [hq] at ha
     obtain ⟨xs,rfl,hx⟩:=ha
     have key:∀ (fl:List Field) (o:Nat) (l:List LK),eqGo P (eqT P d) fl o=some l ->Cells l (xs.toList.drop o) ->
       (forIn fl PUnit.unit fun f _=>do
        if f.name≠ "_" then Instr.checkKey e D f.type (<- part f.type xs f.offset)
        pure (ForInStep.yield PUnit.unit):Sem PUnit).run P w= .ok PUnit.unit w:=by
      intro fl
      induction fl with
      | nil=>intro o l hl h1;simp
      | cons f fl ihf=>
       intro o l hl h1
       unfold eqGo at hl
       split at hl
       ·next l1 hn ho hl1=>
        split at hl
        ·next n hs=>
         split at hl
         ·next hnl=>
          split at hl
          ·next r hr=>
           simp only [Option.some.injEq] at hl;subst hl
           have hn':f.name≠ "_" :=by simpa using hn
           have ho':=Nat.eq_of_beq_eq_true ho
           have hnl':=Nat.eq_of_beq_eq_true hnl
           obtain ⟨q1,q2⟩:=aDy hl1
           obtain ⟨va,pa,ta,ca,_⟩:=avJ hs hnl' q1 q2 h1 w
           have d1:=h1.append.2
           rw [List.drop_drop] at d1
           have e2:=ihf (o+l1.length) r hr d1
           subst ho'
           have e1:=ih f.type l1 hl1 D (by omega) va ta w
           simp only [List.forIn_cons,Sem.run_bind,if_pos hn',pa,e1,Result.andThen_ok,Sem.run_pure]
           exact e2
          ·simp at hl
         ·simp at hl
        ·simp at hl
       ·simp at hl
     have:=key fs.toList 0 l h (by simpa using hx)
     simp only [Instr.checkKey,Sem.run_bind,run_underlying hu,Result.andThen_ok]
     simp at this ⊢
     rw [this];rfl
end
end Go.Sp
end
section
namespace Go.Sp
open Go Go.Vc
structure acM (P:Program) (kt:TypeId) {κ:Type} (enc:κ ->Value):Prop where
 inj:∀ a b,enc a=enc b ->a=b
 chk:∀ e k w,(Instr.checkKey e 10000 kt (enc k)).run P w= .ok () w
 some_:∀ k (es:List MapEntry) i e w,(∀ e∈es,∃ k',e.key=enc k') ->es[i]? =some e ->e.key=enc k ->(∀ j e',j<i ->es[j]? =some e' ->e'.key≠enc k) ->(Instr.findKey kt (enc k) es).run P w= .ok (some (i,e.val)) w
 none_:∀ k (es:List MapEntry) w,(∀ e∈es,∃ k',e.key=enc k') ->(∀ e∈es,e.key≠enc k) ->(Instr.findKey kt (enc k) es).run P w= .ok none w
 stay:∀ k,Instr.sameBits 10000 (enc k) (enc k)=true
section
variable {P:Program} {kt:TypeId}
theorem ams {d:TypeDesc} {k:Value} :
  ∀ (es:List MapEntry) (n i:Nat) (e:MapEntry),es[i]? =some e ->Instr.sameNow d k e.key=some true ->(∀ j e',j<i ->es[j]? =some e' ->Instr.sameNow d k e'.key=some false) ->Instr.findNow d k es n=some (some (n+i,e.val))
 | [],_,_,_,h,_,_=>by simp at h
 | x::es,n,0,e,h,h1,_=>by
  simp only [List.getElem?_cons_zero,Option.some.injEq] at h;subst h
  simp [Instr.findNow,h1]
 | x::es,n,i+1,e,h,h1,h2=>by
  have h0:=h2 0 x (by omega) rfl
  simp only [Instr.findNow,h0]
  rw [ams es (n+1) i e (by simpa using h) h1 (fun j e' hj he=>h2 (j+1) e' (by omega) (by simpa using he))]
  rw [show n+1+i=n+(i+1) by omega]
theorem amr {d:TypeDesc} {k:Value} :∀ (es:List MapEntry) (n:Nat),(∀ e∈es,Instr.sameNow d k e.key=some false) ->Instr.findNow d k es n=some none
 | [],_,_=>rfl
 | x::es,n,h=>by
  simp only [Instr.findNow,h x (by simp)]
  exact amr es (n+1) (fun e he=>h e (by simp [he]))
theorem aHw {q:IntKind} (hk:P.underlying kt=some (.int q)) (e:Bool) (n:Nat) (v:Value) (w:World):(Instr.checkKey e (n+1) kt v).run P w= .ok () w:=by
 simp [Instr.checkKey,run_underlying hk]
theorem aHx (hk:P.underlying kt=some .string) (e:Bool) (n:Nat) (v:Value) (w:World):(Instr.checkKey e (n+1) kt v).run P w= .ok () w:=by
 simp [Instr.checkKey,run_underlying hk]
theorem aB3 (n:Nat) (q:IntKind) (k:Int):Instr.sameBits n (.int q k) (.int q k)=true:=by
 cases n<;>simp [Instr.sameBits]
theorem aFN (n:Nat) (k:Bool):Instr.sameBits n (.bool k) (.bool k)=true:=by
 cases n<;>simp [Instr.sameBits]
theorem aB4 (n:Nat) (k:ByteArray):Instr.sameBits n (.string k) (.string k)=true:=by
 cases n<;>simp [Instr.sameBits,MapKept.bytes_beq]
theorem acM.int {q:IntKind} (hk:P.underlying kt=some (.int q)):acM P kt (fun n:Int=>Value.int q n) where
 inj:=fun a b h=>by simpa using h
 chk:=fun e k w=>aHw hk e 9999 _ w
 some_:=fun k es i e w hes hi hk' hlt=>by
  have hf:∀ e'∈es,∃ n,e'.key= .int q n:=hes
  have:=ams (d:= .int q) (k:= .int q k) es 0 i e hi (by rw [hk'];simp [Instr.sameNow]) (fun j e' hj he=>by
   obtain ⟨n,hn⟩:=hf e' (List.mem_of_getElem? he)
   have hne:=hlt j e' hj he
   rw [hn] at hne ⊢
   simp only [Instr.sameNow,if_true,Option.some.injEq,beq_eq_false_iff_ne]
   intro hh;exact hne (by rw [hh]))
  simp [Instr.findKey,run_underlying hk,this]
 none_:=fun k es w hes hno=>by
  have:=amr (d:= .int q) (k:= .int q k) es 0 (fun e he=>by
   obtain ⟨n,hn⟩:=hes e he
   have hne:=hno e he
   rw [hn] at hne ⊢
   simp only [Instr.sameNow,if_true,Option.some.injEq,beq_eq_false_iff_ne]
   intro hh;exact hne (by rw [hh]))
  simp [Instr.findKey,run_underlying hk,this]
 stay:=fun k=>aB3 _ _ _
theorem acM.str (hk:P.underlying kt=some .string):acM P kt (fun s:ByteArray=>Value.string s) where
 inj:=fun a b h=>by simpa using h
 chk:=fun e k w=>aHx hk e 9999 _ w
 some_:=fun k es i e w hes hi hk' hlt=>by
  have:=ams (d:= .string) (k:= .string k) es 0 i e hi (by rw [hk'];simp [Instr.sameNow,MapKept.bytes_beq]) (fun j e' hj he=>by
   obtain ⟨n,hn⟩:=hes e' (List.mem_of_getElem? he)
   have hne:=hlt j e' hj he
   rw [hn] at hne ⊢
   have:¬ (k==n)=true:=fun h=>hne (by rw [(MapKept.bytes_beq _ _).1 h])
   simp only [Instr.sameNow]
   simpa using this)
  simp [Instr.findKey,run_underlying hk,this]
 none_:=fun k es w hes hno=>by
  have:=amr (d:= .string) (k:= .string k) es 0 (fun e he=>by
   obtain ⟨n,hn⟩:=hes e he
   have hne:=hno e he
   rw [hn] at hne ⊢
   have:¬ (k==n)=true:=fun h=>hne (by rw [(MapKept.bytes_beq _ _).1 h])
   simp only [Instr.sameNow]
   simpa using this)
  simp [Instr.findKey,run_underlying hk,this]
 stay:=fun k=>aB4 _ _
theorem am8 {k:Value} {w:World} :∀ (es:List MapEntry) (n i:Nat) (e:MapEntry),(∀ e∈es,∃ r:Bool,(Op.equal kt k e.key).run P w= .ok r w/\(r=true↔k=e.key)) ->es[i]? =some e ->e.key=k ->(∀ j e',j<i ->es[j]? =some e' ->e'.key≠k) ->
  (Instr.findAsking kt k es n).run P w= .ok (some (n+i,e.val)) w
 | [],_,_,_,_,h,_,_=>by simp at h
 | x::es,n,0,e,hes,h,h1,_=>by
  simp only [List.getElem?_cons_zero,Option.some.injEq] at h;subst h
  obtain ⟨r,hr,hiff⟩:=hes x (by simp)
  have:r=true:=hiff.2 h1.symm
  subst this
  simp [Instr.findAsking,hr]
 | x::es,n,i+1,e,hes,h,h1,h2=>by
  obtain ⟨r,hr,hiff⟩:=hes x (by simp)
  have:r=false:=by
   cases r with
   | false=>rfl
   | true=>exact absurd (hiff.1 rfl).symm (h2 0 x (by omega) rfl)
  subst this
  have ih:=am8 (k:=k) (w:=w) es (n+1) i e (fun e he=>hes e (by simp [he])) (by simpa using h) h1 (fun j e' hj he=>h2 (j+1) e' (by omega) (by simpa using he))
  simp only [Instr.findAsking,Sem.run_bind,hr,Result.andThen_ok,Bool.false_eq_true,if_false]
  rw [ih,show n+1+i=n+(i+1) by omega]
theorem am7 {k:Value} {w:World} :∀ (es:List MapEntry) (n:Nat),(∀ e∈es,∃ r:Bool,(Op.equal kt k e.key).run P w= .ok r w/\(r=true↔k=e.key)) ->(∀ e∈es,e.key≠k) ->
  (Instr.findAsking kt k es n).run P w= .ok none w
 | [],_,_,_=>by simp [Instr.findAsking]
 | x::es,n,hes,h=>by
  obtain ⟨r,hr,hiff⟩:=hes x (by simp)
  have:r=false:=by
   cases r with
   | false=>rfl
   | true=>exact absurd (hiff.1 rfl).symm (h x (by simp))
  subst this
  have ih:=am7 (k:=k) (w:=w) es (n+1) (fun e he=>hes e (by simp [he])) (fun e he=>h e (by simp [he]))
  simp only [Instr.findAsking,Sem.run_bind,hr,Result.andThen_ok,Bool.false_eq_true,if_false]
  exact ih
theorem aC1 {fs:Array Field} {k:Value} :∀ (es:List MapEntry),Instr.findNow (.struct fs) k es 0=some none\/Instr.findNow (.struct fs) k es 0=none
 | []=> .inl rfl
 | x::es=> .inr (by simp [Instr.findNow,Instr.sameNow])
theorem aGK {cs:Array Value} (n:Nat) (h:∀ v∈cs.toList,Instr.sameBits n v v=true):Instr.sameBits (n+1) (.agg cs) (.agg cs)=true:=by
 simp only [Instr.sameBits,beq_self_eq_true,Bool.true_and,List.all_eq_true]
 intro x hx
 obtain ⟨i,hi,rfl⟩:=List.mem_iff_getElem.1 hx
 rw [List.getElem_zip]
 exact h _ (List.getElem_mem _)
theorem acM.agg {κ:Type} {enc:κ ->Value} {d:Nat} {l:List LK} (hi:∀ a b,enc a=enc b ->a=b) (hq:eqT P d kt=some l) (hd:d<=10000) (hag:aggQ P kt=some true) (ht:∀ k,Typed P kt l (enc k)):acM P kt enc:=by
 have hu:∃ fs,P.underlying kt=some (.struct fs):=by
  cases d with
  | zero=>simp [eqT] at hq
  | succ d=>
   unfold eqT at hq
   unfold aggQ at hag
   cases hu:P.underlying kt with
   | none=>simp [hu] at hag
   | some x=>cases x<;>simp [hu] at hq hag ⊢
 obtain ⟨fs,hu⟩:=hu
 have heq:∀ k (es:List MapEntry) (w:World),(∀ e∈es,∃ k',e.key=enc k') ->∀ e∈es,∃ r:Bool,(Op.equal kt (enc k) e.key).run P w= .ok r w/\(r=true↔enc k=e.key):=by
  intro k es w hes e he
  obtain ⟨k',hk'⟩:=hes e he
  rw [hk']
  exact aun d kt l hq 10000 hd _ _ (ht k) (ht k') w
 refine ⟨hi,fun e k w=>aCF e d kt l hq 10000 hd _ (ht k) w,fun k es i e w hes hi hk hlt=> ?_,fun k es w hes hno=> ?_,fun k=> ?_⟩
 ·have hf:=am8 (kt:=kt) (P:=P) (k:=enc k) (w:=w) es 0 i e (heq k es w hes) hi hk hlt
  rw [Nat.zero_add] at hf
  have hnn:Instr.findNow (.struct fs) (enc k) es 0=none:=by
   cases es with
   | nil=>simp at hi
   | cons x xs=>simp [Instr.findNow,Instr.sameNow]
  simp [Instr.findKey,run_underlying hu,hnn,hf]
 ·have hf:=am7 (kt:=kt) (P:=P) (k:=enc k) (w:=w) es 0 (heq k es w hes) hno
  rcases aC1 (fs:=fs) (k:=enc k) es with h | h
  ·simp [Instr.findKey,run_underlying hu,h]
  ·simp [Instr.findKey,run_underlying hu,h,hf]
 ·have:=ht k
  unfold Typed at this;rw [hag] at this
  obtain ⟨cs,he,hc⟩:=this
  rw [he]
  refine aGK 9999 (fun v hv=> ?_)
  have go:∀ (l:List LK) (vs:List Value),Cells l vs ->∀ v∈vs,Instr.sameBits 9999 v v=true:=by
   intro l
   induction l with
   | nil=>intro vs h v hv;cases vs with
    | nil=>cases hv
    | cons _ _=>exact h.elim
   | cons k l ih=>intro vs h v hv;cases vs with
    | nil=>cases hv
    | cons x vs=>
     rcases List.mem_cons.1 hv with rfl | hv
     ·have:=h.1
      cases k<;>(obtain ⟨_,h⟩:=this;rw [h])
      ·exact aB3 _ _ _
      ·exact aFN _ _
      ·exact aB4 _ _
     ·exact ih vs h.2 v hv
  exact go l _ hc v hv
end
structure ac9 {κ:Type} (enc:κ ->Value) (f:κ ->Option Value) (es:List MapEntry) (ck:Nat):Prop where
 key:∀ e∈es,∃ k,e.key=enc k/\f k=some e.val
 has:∀ k v,f k=some v ->∃ e∈es,e.key=enc k/\e.val=v
 one:es.Pairwise (fun a b=>a.key≠b.key)
 born:∀ e∈es,e.born<ck
 bone:es.Pairwise (fun a b=>a.born≠b.born)
def mapF {κ:Type} (b:Nat) (enc:κ ->Value) (f:κ ->Option Value):Asn:=
 ⟨fun h F=>(∃ es ck,h[b]? =some (.map es.toArray ck)/\ac9 enc f es ck)/\∀ x,F x↔x=b,fun hh hl=>⟨by rw [hl b ((hh.2 b).2 rfl)];exact hh.1,hh.2⟩⟩
def upd {κ:Type} [DecidableEq κ] {α:Type} (f:κ ->Option α) (k:κ) (v:Option α):κ ->Option α:=fun x=>if x=k then v else f x
section
variable {P:Program} {κ:Type} [DecidableEq κ] {enc:κ ->Value} {f:κ ->Option Value} {es:List MapEntry} {ck:Nat} {kt:TypeId}
omit [DecidableEq κ] in
theorem ac9.keys (M:ac9 enc f es ck):∀ e∈es,∃ k,e.key=enc k:=fun e he=>let ⟨k,h,_⟩:=M.key e he;⟨k,h⟩
omit [DecidableEq κ] in
theorem ac9.at_ (M:ac9 enc f es ck) {i:Nat} {e:MapEntry} (hi:es[i]? =some e):∀ j e',j<i ->es[j]? =some e' ->e'.key≠e.key:=by
 intro j e' hj he
 obtain ⟨h1,h2⟩:=List.getElem?_eq_some_iff.1 hi
 obtain ⟨h3,h4⟩:=List.getElem?_eq_some_iff.1 he
 have:=List.pairwise_iff_getElem.1 M.one j i h3 h1 hj
 rw [h2,h4] at this;exact this
omit [DecidableEq κ] in
theorem ac9.find_some (K:acM P kt enc) (M:ac9 enc f es ck) {k:κ} {v:Value} (hf:f k=some v) (w:World):∃ i e,es[i]? =some e/\e.key=enc k/\e.val=v/\(Instr.findKey kt (enc k) es).run P w= .ok (some (i,v)) w:=by
 obtain ⟨e,he,hk,hv⟩:=M.has k v hf
 obtain ⟨i,hi,rfl⟩:=List.mem_iff_getElem.1 he
 have hg:es[i]? =some es[i]:=List.getElem?_eq_getElem hi
 refine ⟨i,es[i],hg,hk,hv,?_⟩
 rw [<- hv]
 exact K.some_ k es i es[i] w M.keys hg hk (fun j e' hj he'=>hk ▸ M.at_ hg j e' hj he')
omit [DecidableEq κ] in
theorem ac9.find_none (K:acM P kt enc) (M:ac9 enc f es ck) {k:κ} (hf:f k=none) (w:World):(Instr.findKey kt (enc k) es).run P w= .ok none w:=
 K.none_ k es w M.keys (fun e he hk=>by
  obtain ⟨k',h1,h2⟩:=M.key e he
  have:k'=k:=K.inj _ _ (h1.symm.trans hk)
  rw [this,hf] at h2;cases h2)
omit [DecidableEq κ] in
theorem ac9.empty:ac9 enc (fun _=>none) [] 0:=⟨by simp,by simp,List.Pairwise.nil,by simp,List.Pairwise.nil⟩
theorem ac9.put (K:acM P kt enc) (M:ac9 enc f es ck) {k:κ} {i:Nat} {e:MapEntry} (hi:es[i]? =some e) (hk:e.key=enc k) (v:Value):
  ac9 enc (upd f k (some v)) (es.set i {e with key:=enc k,val:=v}) ck:=by
 obtain ⟨hlt,hge⟩:=List.getElem?_eq_some_iff.1 hi
 have hkeys:(es.set i {e with key:=enc k,val:=v}).map (·.key)=es.map (·.key):=by
  rw [List.map_set]
  apply List.ext_getElem?
  intro j
  rw [List.getElem?_set]
  split
  ·next h=>subst h;simp [hlt,hge,hk]
  ·rfl
 have hborn:(es.set i {e with key:=enc k,val:=v}).map (·.born)=es.map (·.born):=by
  rw [List.map_set]
  apply List.ext_getElem?
  intro j
  rw [List.getElem?_set]
  split
  ·next h=>subst h;simp [hlt,hge]
  ·rfl
 refine ⟨?_,?_,?_,?_,?_⟩
 ·intro x hx
  obtain ⟨j,hj,rfl⟩:=List.mem_iff_getElem.1 hx
  rw [List.getElem_set]
  split
  ·exact ⟨k,rfl,by simp [upd]⟩
  ·next hne=>
   have hj':j<es.length:=by simpa using hj
   obtain ⟨k',h1,h2⟩:=M.key es[j] (List.getElem_mem hj')
   refine ⟨k',h1,?_⟩
   have:k'≠k:=by
    rintro rfl
    have hkk:es[j].key=es[i].key:=by rw [h1,hge,hk]
    rcases Nat.lt_or_ge i j with h | h
    ·exact List.pairwise_iff_getElem.1 M.one i j hlt hj' h hkk.symm
    ·exact List.pairwise_iff_getElem.1 M.one j i hj' hlt (by omega) hkk
   simp [upd,this,h2]
 ·intro k' v' h
  unfold upd at h
  split at h
  ·next he=>
   simp only [Option.some.injEq] at h
   subst he h
   exact ⟨{e with key:=enc k',val:=v},List.mem_iff_getElem.2 ⟨i,by simpa using hlt,by simp⟩,rfl,rfl⟩
  ·next hne=>
   obtain ⟨x,hx,h1,h2⟩:=M.has k' v' h
   obtain ⟨j,hj,rfl⟩:=List.mem_iff_getElem.1 hx
   have hji:i≠j:=by
    rintro rfl
    exact hne (K.inj _ _ (by rw [<- h1,<- hk,hge]))
   refine ⟨es[j],List.mem_iff_getElem.2 ⟨j,by simpa using hj,by rw [List.getElem_set,if_neg hji]⟩,h1,h2⟩
 ·have:=M.one
  rw [<- List.pairwise_map (f:=fun e:MapEntry=>e.key) (R:=fun a b=>a≠b)] at this ⊢
  rw [hkeys];exact this
 ·intro x hx
  have:x.born∈(es.set i {e with key:=enc k,val:=v}).map (·.born):=List.mem_map.2 ⟨x,hx,rfl⟩
  rw [hborn] at this
  obtain ⟨y,hy,he⟩:=List.mem_map.1 this
  rw [<- he];exact M.born y hy
 ·have:=M.bone
  rw [<- List.pairwise_map (f:=fun e:MapEntry=>e.born) (R:=fun a b=>a≠b)] at this ⊢
  rw [hborn];exact this
theorem ac9.add (K:acM P kt enc) (M:ac9 enc f es ck) {k:κ} (hf:f k=none) (v:Value):ac9 enc (upd f k (some v)) (es++ [{key:=enc k,val:=v,born:=ck}]) (ck+1):=by
 refine ⟨?_,?_,?_,?_,?_⟩
 ·intro x hx
  rcases List.mem_append.1 hx with hx | hx
  ·obtain ⟨k',h1,h2⟩:=M.key x hx
   refine ⟨k',h1,?_⟩
   have:k'≠k:=by rintro rfl;rw [hf] at h2;cases h2
   simp [upd,this,h2]
  ·simp only [List.mem_singleton] at hx;subst hx
   exact ⟨k,rfl,by simp [upd]⟩
 ·intro k' v' h
  unfold upd at h
  split at h
  ·next he=>
   simp only [Option.some.injEq] at h
   subst he h
   exact ⟨{key:=enc k',val:=v,born:=ck},by simp,rfl,rfl⟩
  ·obtain ⟨x,hx,h1,h2⟩:=M.has k' v' h
   exact ⟨x,by simp [hx],h1,h2⟩
 ·rw [List.pairwise_append]
  refine ⟨M.one,List.pairwise_singleton _ _,fun a ha b hb=> ?_⟩
  simp only [List.mem_singleton] at hb;subst hb
  obtain ⟨k',h1,h2⟩:=M.key a ha
  intro h
  have:k'=k:=K.inj _ _ (h1.symm.trans h)
  rw [this,hf] at h2;cases h2
 ·intro x hx
  rcases List.mem_append.1 hx with hx | hx
  ·have:=M.born x hx;omega
  ·simp only [List.mem_singleton] at hx;subst hx;simp
 ·rw [List.pairwise_append]
  refine ⟨M.bone,List.pairwise_singleton _ _,fun a ha b hb=> ?_⟩
  simp only [List.mem_singleton] at hb;subst hb
  have:=M.born a ha
  simp;omega
theorem ac9.del (K:acM P kt enc) (M:ac9 enc f es ck) {k:κ} {i:Nat} {e:MapEntry} (hi:es[i]? =some e) (hk:e.key=enc k):ac9 enc (upd f k none) (es.eraseIdx i) ck:=by
 obtain ⟨hlt,hge⟩:=List.getElem?_eq_some_iff.1 hi
 have hsub:=List.eraseIdx_sublist es i
 refine ⟨?_,?_,M.one.sublist hsub,fun x hx=>M.born x (hsub.subset hx),M.bone.sublist hsub⟩
 ·intro x hx
  obtain ⟨j,hj,hji,he⟩:=List.mem_eraseIdx_iff_getElem.1 hx
  subst he
  obtain ⟨k',h1,h2⟩:=M.key es[j] (List.getElem_mem hj)
  refine ⟨k',h1,?_⟩
  have:k'≠k:=by
   rintro rfl
   have hkk:es[j].key=es[i].key:=by rw [h1,hge,hk]
   rcases Nat.lt_or_ge i j with h | h
   ·exact List.pairwise_iff_getElem.1 M.one i j hlt hj h hkk.symm
   ·exact List.pairwise_iff_getElem.1 M.one j i hj hlt (by omega) hkk
  simp [upd,this,h2]
 ·intro k' v' h
  unfold upd at h
  split at h
  ·cases h
  ·next hne=>
   obtain ⟨x,hx,h1,h2⟩:=M.has k' v' h
   obtain ⟨j,hj,rfl⟩:=List.mem_iff_getElem.1 hx
   have hji:j≠i:=by
    rintro rfl
    exact hne (K.inj _ _ (by rw [<- h1,<- hk,hge]))
   exact ⟨es[j],List.mem_eraseIdx_iff_getElem.2 ⟨j,hj,hji,rfl⟩,h1,h2⟩
theorem aGU {k:κ} {α:Type} {f:κ ->Option α} (hf:f k=none):upd f k none=f:=by
 funext x;unfold upd;split
 ·next h=>subst h;exact hf.symm
 ·rfl
end
section
variable {E:Env} {L:List Asn} {w:World} {P:Program} {κ:Type} [DecidableEq κ] {enc:κ ->Value} {f:κ ->Option Value} {b:Nat}
omit [DecidableEq κ] in
theorem mapF.at_ {i:Nat} (h:Sep E L w) (hi:L[i]? =some (mapF b enc f)):∃ es ck,w.heap[b]? =some (.map es.toArray ck)/\ac9 enc f es ck:=by
 obtain ⟨_,F,⟨h1,_⟩,_⟩:=h.fr i hi;exact h1
omit [DecidableEq κ] in
theorem mapF.set {κ':Type} {enc':κ' ->Value} {f':κ' ->Option Value} (h:Sep E (mapF b enc f::L) w) {es':List MapEntry} {ck':Nat} (M:ac9 enc' f' es' ck'):Sep E (mapF b enc' f'::L) {w with heap:=w.heap.setIfInBounds b (.map es'.toArray ck')} :=by
 have hb:b<w.heap.size:=by
  obtain ⟨es,ck,hb,_⟩:=mapF.at_ (i:=0) h rfl
  exact (Array.getElem?_eq_some_iff.1 hb).1
 refine h.change rfl (by simp) (fun F hF hlt=>⟨fun x _ hx=> ?_,F,⟨⟨es',ck',?_,M⟩,hF.2⟩,fun x hx=>⟨?_,.inl hx⟩⟩)
 ·have:b≠x:=fun e=>hx ((hF.2 x).2 e.symm)
  show (w.heap.setIfInBounds b _)[x]? =_
  rw [Array.getElem?_setIfInBounds,if_neg this]
 ·show (w.heap.setIfInBounds b _)[b]? =_
  rw [Array.getElem?_setIfInBounds,if_pos rfl,if_pos hb]
 ·simpa using hlt x hx
omit [DecidableEq κ] in
theorem mapF.new {g:Nat ->World ->Prop} (h:Sep E L w) (k:∀ b w1,Sep E (mapF b enc (fun _=>none)::L) w1 ->g b w1):AlM g w:=
 k _ _ (h.new (Grow.alloc w _) (F':=fun x=>x=w.heap.size) ⟨⟨[],0,heap_alloc w _,ac9.empty⟩,fun _=>Iff.rfl⟩ (fun b hb=>by subst hb;rw [size_alloc];omega))
def mQ (P:Program) (t:TypeId):Option (TypeId×Value):=
 match P.underlying t with
 | some (.map k e)=>match anr P e with
  | some z=>some (k,z)
  | none=>none
 | _=>none
theorem aGe {t:TypeId} {z:Value} (h:anr P t=some z) (w:World):(zeroValue t).run P w= .ok z w:=by
 unfold anr at h
 cases hi:P.info? t with
 | none=>simp [hi] at h
 | some i=>simp [hi] at h;simp [zeroValue,typeInfo,hi,h]
theorem aw1 {t kt:TypeId} {z:Value} (h:mQ P t=some (kt,z)):∃ e,P.underlying t=some (.map kt e)/\∀ w,(zeroValue e).run P w= .ok z w:=by
 unfold mQ at h
 split at h
 ·next k e he=>
  split at h
  ·next z' hz=>
   simp only [Option.some.injEq,Prod.mk.injEq] at h
   obtain ⟨rfl,rfl⟩:=h
   exact ⟨e,he,aGe hz⟩
  ·simp at h
 ·simp at h
omit [DecidableEq κ] in
theorem aca.i {t kt:TypeId} {z:Value} (ok:Bool) (i:Nat) (h:Sep E L w) (hi:L[i]? =some (mapF b enc f)) (K:acM P kt enc) (hq:mQ P t=some (kt,z)) (k:κ):
  aca P t (.map (some b)) (enc k) ok w (match ok with | true=> .tuple #[(f k).getD z,.bool (f k).isSome] | false=>(f k).getD z):=by
 intro w' g
 obtain ⟨e,ht,hz⟩:=aw1 hq
 obtain ⟨es,ck,hb,M⟩:=mapF.at_ (h.grow g) hi
 cases hf:f k with
 | some v=>
  obtain ⟨j,x,hj,hk,hv,hfind⟩:=M.find_some K hf w'
  cases ok<;>simp [Instr.lookup,run_underlying ht,MapKept.run_getObj_map hb,K.chk,hfind]
 | none=>
  have hfind:=M.find_none K hf w'
  cases ok<;>simp [Instr.lookup,run_underlying ht,MapKept.run_getObj_map hb,K.chk,hfind,hz]
theorem mapUpdate.i {t kt:TypeId} {z:Value} (h:Sep E (mapF b enc f::L) w) (K:acM P kt enc) (hq:mQ P t=some (kt,z)) (k:κ) (v:Value) {G:World ->Prop} (g:∀ w1,Sep E (mapF b enc (upd f k (some v))::L) w1 ->G w1):
  ∃ w1,Sem.run P (Instr.mapUpdate t (.map (some b)) (enc k) v) w= .ok () w1/\G w1:=by
 obtain ⟨e,ht,hz⟩:=aw1 hq
 obtain ⟨es,ck,hb,M⟩:=mapF.at_ (i:=0) h rfl
 cases hf:f k with
 | some v0=>
  obtain ⟨j,x,hj,hk,hv,hfind⟩:=M.find_some K hf w
  refine ⟨{w with heap:=w.heap.setIfInBounds b (.map (es.set j ({x with key:=enc k,val:=v} :MapEntry)).toArray ck)},?_,g _ (mapF.set h (M.put K hj hk v))⟩
  obtain ⟨hlt,hge⟩:=List.getElem?_eq_some_iff.1 hj
  have hm:es.modify j (fun e=> {e with key:=enc k,val:=v})=es.set j {x with key:=enc k,val:=v} :=by
   apply List.ext_getElem?
   intro q
   simp only [List.getElem?_modify,List.getElem?_set]
   by_cases hq:j=q
   ·subst hq;simp [hlt,hge]
   ·simp [hq]
  simp [Instr.mapUpdate,run_underlying ht,MapKept.run_getObj_map hb,K.chk,hfind,Instr.keyThatStays,hj,hk,K.stay,hm,MapKept.run_setObj_map _ hb]
 | none=>
  have hfind:=M.find_none K hf w
  refine ⟨{w with heap:=w.heap.setIfInBounds b (.map (es++ [({key:=enc k,val:=v,born:=ck} :MapEntry)]).toArray (ck+1))},?_,g _ (mapF.set h (M.add K hf v))⟩
  simp [Instr.mapUpdate,run_underlying ht,MapKept.run_getObj_map hb,K.chk,hfind,MapKept.run_setObj_map _ hb]
theorem mapDelete.i {t kt:TypeId} {u ty:TypeId} {z:Value} (h:Sep E (mapF b enc f::L) w) (K:acM P kt enc) (hq:mQ P t=some (kt,z)) (k:κ) {G:World ->Prop} (g:∀ w1,Sep E (mapF b enc (upd f k none)::L) w1 ->G w1):
  ∃ w1,Sem.run P (Builtin.delete_ #[t,u] ty #[.map (some b),enc k]) w= .ok (.tuple #[]) w1/\G w1:=by
 obtain ⟨e,ht,hz⟩:=aw1 hq
 obtain ⟨es,ck,hb,M⟩:=mapF.at_ (i:=0) h rfl
 cases hf:f k with
 | some v0=>
  obtain ⟨j,x,hj,hk,hv,hfind⟩:=M.find_some K hf w
  obtain ⟨hlt,hge⟩:=List.getElem?_eq_some_iff.1 hj
  refine ⟨{w with heap:=w.heap.setIfInBounds b (.map (es.eraseIdx j).toArray ck)},?_,g _ (mapF.set h (M.del K hj hk))⟩
  simp [Builtin.delete_,run_underlying ht,MapKept.run_getObj_map hb,K.chk,hfind,Array.eraseIdxIfInBounds,hlt,MapKept.run_setObj_map _ hb]
 | none=>
  have hfind:=M.find_none K hf w
  refine ⟨{w with heap:=w.heap.setIfInBounds b (.map es.toArray ck)},?_,g _ (by rw [aGU hf];exact mapF.set h M)⟩
  simp [Builtin.delete_,run_underlying ht,MapKept.run_getObj_map hb,K.chk,hfind,MapKept.run_setObj_map _ hb]
end
end Go.Sp
end
section
namespace Go.Kc
open Go Go.Sp
structure Pg where
 kf:Int
 ki:Int
 place:Int
 at_:Int
 owner:Int
 refs:Int
 gen:Int
 hot:Bool
 dirty:Bool
def Pg.zero:Pg:=⟨0,0,0,0,0,0,0,false,false⟩
structure TS where
 pg:Int ->Option Pg
 files:Int×Int ->Option Int
 spots:Int×Int ->Option Int
 next:Int
def TS.zero:TS:=⟨fun _=>none,fun _=>none,fun _=>none,0⟩
def TS.of (S:TS) (k:Int×Int):Int:=(S.files k).getD (-1)
def TS.at_ (S:TS) (k:Int×Int):Int:=(S.spots k).getD (-1)
def TS.new_ (S:TS) (kf ki o:Int):TS:= {S with pg:=upd S.pg S.next (some ⟨kf,ki,0,0,o,0,0,false,false⟩),next:=IntKind.i64.wrap (S.next+1)}
def TS.make (S:TS) (kf ki o:Int):TS×Int×Int:=
 if kf<0 then (S.new_ (-1) S.next o,S.next,0)
 else if S.of (kf,ki)≥0 then (S, -1,4)
 else ({S with files:=upd S.files (kf,ki) (some S.next)}.new_ kf ki o,S.next,0)
def TS.get (S:TS) (id:Int):Pg×Int:=match S.pg id with
 | some p=>(p,0)
 | none=>(Pg.zero,2)
def TS.setPg (S:TS) (id:Int) (p:Pg):TS:= {S with pg:=upd S.pg id (some p)}
def TS.put (S:TS) (id place at_:Int):TS×Int:=match S.pg id with
 | none=>(S,2)
 | some p=>
  if place<0\/2<place\/at_<0\/(place=0/\at_≠0) then (S,1)
  else if 0<=S.at_ (place,at_)/\S.at_ (place,at_)≠id then (S,4)
  else ({pg:=upd S.pg id (some {p with place:=place,at_:=at_}),files:=S.files,spots:=if place≠0 then upd (upd S.spots (p.place,p.at_) none) (place,at_) (some id) else upd S.spots (p.place,p.at_) none,next:=S.next},0)
def TS.refer (S:TS) (id n:Int):TS×Int×Int:=match S.pg id with
 | none=>(S,0,2)
 | some p=>if n< -1000\/1000<n\/IntKind.i64.wrap (p.refs+n)<0 then (S,0,1) else (S.setPg id {p with refs:=IntKind.i64.wrap (p.refs+n)},IntKind.i64.wrap (p.refs+n),0)
def TS.drop (S:TS) (id:Int):TS×Int:=match S.pg id with
 | none=>(S,2)
 | some p=>if 0<p.refs\/p.place≠0 then (S,4) else ({S with pg:=upd S.pg id none,files:=upd S.files (p.kf,p.ki) none},0)
def TS.own (S:TS) (id o:Int):TS×Int:=match S.pg id with
 | none=>(S,2)
 | some p=>(S.setPg id {p with owner:=o},0)
def TS.mark (S:TS) (id:Int) (d:Bool):TS×Int:=match S.pg id with
 | none=>(S,2)
 | some p=>(S.setPg id {p with dirty:=d},0)
end Go.Kc
end
section
namespace Go.Stab
structure Ord {α:Type} (R:α ->α ->Prop):Prop where
 trans:∀ x y z,R x y ->R y z ->R x z
 irr:∀ x,¬ R x x
 tot:∀ x y,x≠y ->R x y\/R y x
section
variable {α:Type} {R:α ->α ->Prop}
theorem Ord.not (O:Ord R) {x y:α} (hne:x≠y) (h:¬ R x y):R y x:=(O.tot x y hne).resolve_left h
def ins (P:List α) (n:Nat) (x:α):List α:=P.take n++x::P.drop n
theorem acZ (P:List α) (n:Nat) (x:α):(ins P n x).length=P.length+1:=by
 unfold ins;simp only [List.length_append,List.length_take,List.length_cons,List.length_drop];omega
theorem ako (P:List α) (n:Nat) (x:α):(ins P n x).Perm (x::P):=by
 unfold ins
 refine List.perm_middle.trans ?_
 rw [List.take_append_drop]
theorem ama (P:List α) (n:Nat) (x:α) (hn:n<=P.length) (i:Nat):(ins P n x)[i]? =if i<n then P[i]? else if i=n then some x else P[i - 1]? :=by
 unfold ins
 have hl:(P.take n).length=n:=by simp;omega
 by_cases h1:i<n
 ·rw [if_pos h1,List.getElem?_append_left (by omega)];simp [h1]
 ·rw [if_neg h1,List.getElem?_append_right (by omega),hl]
  by_cases h2:i=n
  ·rw [if_pos h2];simp [h2]
  ·rw [if_neg h2]
   obtain ⟨k,hk⟩:∃ k,i - n=k+1:=⟨i - n - 1,by omega⟩
   rw [hk,List.getElem?_cons_succ,List.getElem?_drop]
   congr 1;omega
theorem asV (P:List α) (x:α):ins P P.length x=P++ [x]:=by simp [ins]
theorem aFy {A P B:List α} {n:Nat} {x y:α} (hn:P[n]? =some y):((A++ins P n x++B).set (A.length+n) y).set (A.length+n+1) x=A++ins P (n+1) x++B:=by
 have hlt:n<P.length:=(List.getElem?_eq_some_iff.1 hn).1
 have hg:=ama P n x (by omega)
 have hg':=ama P (n+1) x (by omega)
 have hl:=acZ P n x
 have hl':=acZ P (n+1) x
 apply List.ext_getElem?
 intro i
 simp only [List.getElem?_set,List.length_set,List.length_append,hl]
 by_cases e1:A.length+n+1=i
 ·rw [if_pos e1,if_pos (by omega),List.getElem?_append_left (by simp;omega),List.getElem?_append_right (by omega),hg',if_neg (by omega),if_pos (by omega)]
 ·rw [if_neg e1]
  by_cases e2:A.length+n=i
  ·rw [if_pos e2,if_pos (by omega),List.getElem?_append_left (by simp;omega),List.getElem?_append_right (by omega),hg',if_pos (by omega),<- hn];congr 1;omega
  ·rw [if_neg e2]
   by_cases h1:i<A.length
   ·rw [List.getElem?_append_left (by simp;omega),List.getElem?_append_left h1,List.getElem?_append_left (by simp;omega),List.getElem?_append_left h1]
   ·by_cases h2:i<A.length+(P.length+1)
    ·rw [List.getElem?_append_left (by simp;omega),List.getElem?_append_right (by omega),List.getElem?_append_left (by simp;omega),List.getElem?_append_right (by omega),hg,hg']
     by_cases h3:i - A.length<n
     ·rw [if_pos h3,if_pos (by omega)]
     ·rw [if_neg h3,if_neg (by omega),if_neg (by omega),if_neg (by omega)]
    ·rw [List.getElem?_append_right (by simp;omega),List.getElem?_append_right (by simp;omega)]
     simp [hl,hl']
theorem aph {A P B:List α} {n:Nat} {x y:α} (hn:P[n]? =some y):((A++ins P (n+1) x++B).set (A.length+n+1) y).set (A.length+n) x=A++ins P n x++B:=by
 have hlt:n<P.length:=(List.getElem?_eq_some_iff.1 hn).1
 have hg:=ama P (n+1) x (by omega)
 have hg':=ama P n x (by omega)
 have hl:=acZ P (n+1) x
 have hl':=acZ P n x
 apply List.ext_getElem?
 intro i
 simp only [List.getElem?_set,List.length_set,List.length_append,hl]
 by_cases e1:A.length+n=i
 ·rw [if_pos e1,if_pos (by omega),List.getElem?_append_left (by simp;omega),List.getElem?_append_right (by omega),hg',if_neg (by omega),if_pos (by omega)]
 ·rw [if_neg e1]
  by_cases e2:A.length+n+1=i
  ·rw [if_pos e2,if_pos (by omega),List.getElem?_append_left (by simp;omega),List.getElem?_append_right (by omega),hg',if_neg (by omega),if_neg (by omega),<- hn];congr 1;omega
  ·rw [if_neg e2]
   by_cases h1:i<A.length
   ·rw [List.getElem?_append_left (by simp;omega),List.getElem?_append_left h1,List.getElem?_append_left (by simp;omega),List.getElem?_append_left h1]
   ·by_cases h2:i<A.length+(P.length+1)
    ·rw [List.getElem?_append_left (by simp;omega),List.getElem?_append_right (by omega),List.getElem?_append_left (by simp;omega),List.getElem?_append_right (by omega),hg,hg']
     by_cases h3:i - A.length<n
     ·rw [if_pos h3,if_pos (by omega)]
     ·rw [if_neg h3,if_neg (by omega),if_neg (by omega),if_neg (by omega)]
    ·rw [List.getElem?_append_right (by simp;omega),List.getElem?_append_right (by simp;omega)]
     simp [hl,hl']
theorem ak3 {l:List α} (h:l.Pairwise R) {i j:Nat} {x y:α} (hx:l[i]? =some x) (hy:l[j]? =some y) (hij:i<j):R x y:=by
 obtain ⟨h1,rfl⟩:=List.getElem?_eq_some_iff.1 hx
 obtain ⟨h2,rfl⟩:=List.getElem?_eq_some_iff.1 hy
 exact List.pairwise_iff_getElem.1 h i j h1 h2 hij
theorem afX {l:List α} {n:Nat} {x:α} (h:x∈l.take n):∃ i,i<n/\l[i]? =some x:=by
 obtain ⟨i,hi,rfl⟩:=List.mem_iff_getElem.1 h
 simp only [List.length_take] at hi
 exact ⟨i,by omega,by simp⟩
theorem ajr {l:List α} {n:Nat} {x:α} (h:x∈l.drop n):∃ i,n<=i/\l[i]? =some x:=by
 obtain ⟨i,hi,rfl⟩:=List.mem_iff_getElem.1 h
 simp only [List.length_drop] at hi
 exact ⟨n+i,by omega,by simp⟩
theorem awU (O:Ord R) {X Y:List α} {i j:Nat} (hX:X.Pairwise R) (hY:Y.Pairwise R)
  (h1:i=0\/Y.length<=j\/∃ x y,X[i - 1]? =some x/\Y[j]? =some y/\R x y) (h2:j=0\/X.length<=i\/∃ x y,Y[j - 1]? =some y/\X[i]? =some x/\R y x):
  ∀ u∈X.take i++Y.take j,∀ v∈X.drop i++Y.drop j,R u v:=by
 intro u hu v hv
 have lt:∀ {l:List α} {k:Nat} {z:α},l[k]? =some z ->k<l.length:=fun h=>(List.getElem?_eq_some_iff.1 h).1
 rcases List.mem_append.1 hu with hu | hu<;>rcases List.mem_append.1 hv with hv | hv
 ·obtain ⟨p,hp,hpu⟩:=afX hu
  obtain ⟨q,hq,hqv⟩:=ajr hv
  exact ak3 hX hpu hqv (by omega)
 ·obtain ⟨p,hp,hpu⟩:=afX hu
  obtain ⟨q,hq,hqv⟩:=ajr hv
  rcases h1 with h1 | h1 | ⟨x,y,hx,hy,hr⟩
  ·omega
  ·have:=lt hqv;omega
  ·have a1:p=i - 1\/p<i - 1:=by omega
   have a2:q=j\/j<q:=by omega
   have r1:u=x\/R u x:=by
    rcases a1 with rfl | a1
    ·rw [hpu] at hx;exact .inl (Option.some.inj hx)
    ·exact .inr (ak3 hX hpu hx a1)
   have r2:y=v\/R y v:=by
    rcases a2 with rfl | a2
    ·rw [hqv] at hy;exact .inl (Option.some.inj hy).symm
    ·exact .inr (ak3 hY hy hqv a2)
   rcases r1 with rfl | r1<;>rcases r2 with rfl | r2
   ·exact hr
   ·exact O.trans _ _ _ hr r2
   ·exact O.trans _ _ _ r1 hr
   ·exact O.trans _ _ _ r1 (O.trans _ _ _ hr r2)
 ·obtain ⟨p,hp,hpu⟩:=afX hu
  obtain ⟨q,hq,hqv⟩:=ajr hv
  rcases h2 with h2 | h2 | ⟨x,y,hy,hx,hr⟩
  ·omega
  ·have:=lt hqv;omega
  ·have a1:p=j - 1\/p<j - 1:=by omega
   have a2:q=i\/i<q:=by omega
   have r1:u=y\/R u y:=by
    rcases a1 with rfl | a1
    ·rw [hpu] at hy;exact .inl (Option.some.inj hy)
    ·exact .inr (ak3 hY hpu hy a1)
   have r2:x=v\/R x v:=by
    rcases a2 with rfl | a2
    ·rw [hqv] at hx;exact .inl (Option.some.inj hx).symm
    ·exact .inr (ak3 hX hx hqv a2)
   rcases r1 with rfl | r1<;>rcases r2 with rfl | r2
   ·exact hr
   ·exact O.trans _ _ _ hr r2
   ·exact O.trans _ _ _ r1 hr
   ·exact O.trans _ _ _ r1 (O.trans _ _ _ hr r2)
 ·obtain ⟨p,hp,hpu⟩:=afX hu
  obtain ⟨q,hq,hqv⟩:=ajr hv
  exact ak3 hY hpu hqv (by omega)
theorem aoi (O:Ord R) {P:List α} {n:Nat} {x:α} (hP:P.Pairwise R) (h1:n=0\/∃ y,P[n - 1]? =some y/\R y x) (h2:P.length<=n\/∃ y,P[n]? =some y/\R x y):(ins P n x).Pairwise R:=by
 have key:=awU O (X:=P) (Y:= [x]) (i:=n) (j:=0) hP (List.pairwise_singleton _ _) (by
  rcases h1 with h | ⟨y,hy,hr⟩
  ·exact .inl h
  ·exact .inr (.inr ⟨y,x,hy,rfl,hr⟩)) (.inl rfl)
 have key2:=awU O (X:=P) (Y:= [x]) (i:=n) (j:=1) hP (List.pairwise_singleton _ _) (.inr (.inl (by simp))) (by
  rcases h2 with h | ⟨y,hy,hr⟩
  ·exact .inr (.inl h)
  ·exact .inr (.inr ⟨y,x,rfl,hy,hr⟩))
 unfold ins
 rw [List.pairwise_append,List.pairwise_cons]
 have hP':=hP
 rw [<- List.take_append_drop n P,List.pairwise_append] at hP'
 refine ⟨hP'.1,⟨fun v hv=>key2 x (by simp) v (by simp [hv]),hP'.2.1⟩,fun u hu v hv=> ?_⟩
 rcases List.mem_cons.1 hv with rfl | hv
 ·exact key u (by simp [hu]) _ (by simp)
 ·exact hP'.2.2 u hu v hv
theorem halves {X Y Z1 Z2:List α} {i j:Nat} (h1:Z1.Perm (X.take i++Y.take j)) (h2:Z2.Perm (X.drop i++Y.drop j)) (s1:Z1.Pairwise R) (s2:Z2.Pairwise R)
  (hc:∀ u∈X.take i++Y.take j,∀ v∈X.drop i++Y.drop j,R u v):(Z1++Z2).Perm (X++Y)/\(Z1++Z2).Pairwise R:=by
 refine ⟨(h1.append h2).trans ?_,List.pairwise_append.2 ⟨s1,s2,fun u hu v hv=>hc u (h1.mem_iff.1 hu) v (h2.mem_iff.1 hv)⟩⟩
 have e1:X++Y=(X.take i++X.drop i)++(Y.take j++Y.drop j):=by rw [List.take_append_drop,List.take_append_drop]
 rw [e1]
 simp only [List.append_assoc]
 refine List.Perm.append_left _ ?_
 rw [<- List.append_assoc,<- List.append_assoc]
 exact List.Perm.append_right _ List.perm_append_comm
def afL (l l':List α) (a b i:Nat):Prop:=l'.length=l.length/\∀ k,l'[k]? =if a<=k/\k<a+i then l[k - a+b]? else if b<=k/\k<b+i then l[k - b+a]? else l[k]?
theorem afL.zero (l:List α) (a b:Nat):afL l l a b 0:=⟨rfl,fun k=>by rw [if_neg (by omega),if_neg (by omega)]⟩
theorem afL.step {l l':List α} {a b i n:Nat} {x y:α} (h:afL l l' a b i) (hab:a+n<=b) (hi:i<n) (hx:l'[b+i]? =some x) (hy:l'[a+i]? =some y):
  afL l ((l'.set (a+i) x).set (b+i) y) a b (i+1):=by
 have hbl:b+i<l'.length:=(List.getElem?_eq_some_iff.1 hx).1
 have hx':=hx;have hy':=hy
 rw [h.2,if_neg (by omega),if_neg (by omega)] at hx' hy'
 refine ⟨by simpa using h.1,fun k=> ?_⟩
 simp only [List.getElem?_set,List.length_set]
 by_cases e1:b+i=k
 ·rw [if_pos e1,if_pos (by omega),if_neg (by omega),if_pos (by omega),<- hy'];congr 1;omega
 ·rw [if_neg e1]
  by_cases e2:a+i=k
  ·rw [if_pos e2,if_pos (by omega),if_pos (by omega),<- hx'];congr 1;omega
  ·rw [if_neg e2,h.2]
   by_cases h1:a<=k/\k<a+i
   ·rw [if_pos h1,if_pos (by omega)]
   ·rw [if_neg h1]
    by_cases h2:b<=k/\k<b+i
    ·rw [if_pos h2,if_neg (by omega),if_pos (by omega)]
    ·rw [if_neg h2,if_neg (by omega),if_neg (by omega)]
theorem afL.eq {A U M V B l':List α} (h:afL (A++U++M++V++B) l' A.length (A.length+U.length+M.length) U.length) (hUV:U.length=V.length):l'=A++V++M++U++B:=by
 apply List.ext_getElem?
 intro k
 rw [h.2]
 have g:∀ (U V:List α) (k:Nat),U.length=V.length ->(A++U++M++V++B)[k]? =if k<A.length then A[k]? else if k<A.length+U.length then U[k - A.length]? else if k<A.length+U.length+M.length then M[k - A.length - U.length]? else
   if k<A.length+U.length+M.length+U.length then V[k - A.length - U.length - M.length]? else B[k - A.length - U.length - M.length - U.length]? :=by
  intro U V k hUV
  by_cases h1:k<A.length
  ·rw [if_pos h1,List.getElem?_append_left (by simp;omega),List.getElem?_append_left (by simp;omega),List.getElem?_append_left (by simp;omega),List.getElem?_append_left h1]
  rw [if_neg h1]
  by_cases h2:k<A.length+U.length
  ·rw [if_pos h2,List.getElem?_append_left (by simp;omega),List.getElem?_append_left (by simp;omega),List.getElem?_append_left (by simp;omega),List.getElem?_append_right (by omega)]
  rw [if_neg h2]
  by_cases h3:k<A.length+U.length+M.length
  ·rw [if_pos h3,List.getElem?_append_left (by simp;omega),List.getElem?_append_left (by simp;omega),List.getElem?_append_right (by simp;omega)]
   congr 1;simp;omega
  rw [if_neg h3]
  by_cases h4:k<A.length+U.length+M.length+U.length
  ·rw [if_pos h4,List.getElem?_append_left (by simp;omega),List.getElem?_append_right (by simp;omega)]
   congr 1;simp;omega
  rw [if_neg h4,List.getElem?_append_right (by simp;omega)]
  congr 1;simp;omega
 rw [g V U k hUV.symm,g U V k hUV]
 by_cases h1:A.length<=k/\k<A.length+U.length
 ·rw [if_pos h1,g U V _ hUV,if_neg (by omega),if_neg (by omega),if_neg (by omega),if_pos (by omega),if_neg (by omega),if_pos (by omega)]
  congr 1;omega
 ·rw [if_neg h1]
  by_cases h2:A.length+U.length+M.length<=k/\k<A.length+U.length+M.length+U.length
  ·rw [if_pos h2,g U V _ hUV,if_neg (by omega),if_pos (by omega),if_neg (by omega),if_neg (by omega),if_neg (by omega),if_pos (by omega)]
   congr 1;omega
  ·rw [if_neg h2]
   by_cases h3:k<A.length
   ·rw [if_pos h3,if_pos h3]
   ·rw [if_neg h3,if_neg h3,if_neg (show ¬ k<A.length+U.length by omega),if_neg (show ¬ k<A.length+V.length by omega)]
    by_cases h4:k<A.length+U.length+M.length
    ·rw [if_pos h4,if_pos (show k<A.length+V.length+M.length by omega)];congr 1;omega
    ·rw [if_neg h4,if_neg (show ¬ k<A.length+V.length+M.length by omega),if_neg (show ¬ k<A.length+U.length+M.length+U.length by omega),if_neg (show ¬ k<A.length+V.length+M.length+V.length by omega)];congr 1;omega
end
end Go.Stab
end
section
namespace Go.Kc
open Go Go.Vc Go.Sp
structure Ent where
 id:Int
 group:Int
 age:Int
def fnd (R:List Ent) (k:Int):Option Ent:=R.find? (fun e=>e.id==k)
structure Good (R:List Ent):Prop where
 rise:R.Pairwise (fun a b=>a.id<b.id)
 ok:∀ e∈R,(0<=e.id/\e.id<=16777216)/\(0<=e.group/\e.group<=16777216)/\0<=e.age/\e.age<=3
variable {R R':List Ent}
theorem Good.nil:Good []:=⟨List.Pairwise.nil,fun _ h=>by cases h⟩
theorem uniq (G:R.Pairwise (fun a b:Ent=>a.id<b.id)) {e e':Ent} (h:e∈R) (h':e'∈R) (hid:e.id=e'.id):e=e':=by
 obtain ⟨i,hi,rfl⟩:=List.mem_iff_getElem.1 h
 obtain ⟨j,hj,rfl⟩:=List.mem_iff_getElem.1 h'
 rcases Nat.lt_trichotomy i j with hlt | rfl | hlt
 ·have:=List.pairwise_iff_getElem.1 G i j hi hj hlt;omega
 ·rfl
 ·have:=List.pairwise_iff_getElem.1 G j i hj hi hlt;omega
theorem adt (G:R.Pairwise (fun a b:Ent=>a.id<b.id)) {k:Int} {e:Ent} :fnd R k=some e↔e∈R/\e.id=k:=by
 unfold fnd
 constructor
 ·intro h;exact ⟨List.mem_of_find?_eq_some h,by simpa using List.find?_some h⟩
 ·rintro ⟨h1,h2⟩
  cases hf:R.find? (fun e=>e.id==k) with
  | none=>have:=List.find?_eq_none.1 hf e h1;simp [h2] at this
  | some e'=>
   have h3:=List.mem_of_find?_eq_some hf
   have h4:e'.id=k:=by simpa using List.find?_some hf
   rw [uniq G h3 h1 (by omega)]
theorem akm (G:R.Pairwise (fun a b:Ent=>a.id<b.id)) {k:Int} :fnd R k=none↔∀ e∈R,e.id≠k:=by
 unfold fnd;rw [List.find?_eq_none];simp
theorem ary (G:R.Pairwise (fun a b:Ent=>a.id<b.id)) (G':R'.Pairwise (fun a b:Ent=>a.id<b.id)) {k:Int} (h:∀ e,e.id=k ->(e∈R'↔e∈R)):fnd R' k=fnd R k:=by
 apply Option.ext
 intro e
 rw [adt G,adt G']
 exact ⟨fun ⟨h1,h2⟩=>⟨(h e h2).1 h1,h2⟩,fun ⟨h1,h2⟩=>⟨(h e h2).2 h1,h2⟩⟩
def insR (R:List Ent) (x:Ent):List Ent:=R.filter (fun y=>decide (y.id<x.id))++x::R.filter (fun y=>decide (x.id<y.id))
def gBad (id g:Int):Prop:=id<0\/16777216<id\/g<0\/16777216<g
instance (id g:Int):Decidable (gBad id g):=by unfold gBad;infer_instance
def gAdd (R:List Ent) (id g:Int) (old:Bool):List Ent×Int:=
 if gBad id g then (R,1) else if (fnd R id).isSome then (R,4) else (insR R ⟨id,g,if old then 1 else 0⟩,0)
def adX (R:List Ent) (id:Int):List Ent×Int:=if (fnd R id).isSome then (R.filter (fun e=>e.id !=id),0) else (R,2)
def abZ (R:List Ent) (id:Int):List Ent×Int:=if (fnd R id).isSome then (R.map (fun e=>if e.id=id then {e with age:=0} else e),0) else (R,2)
def ajm (R:List Ent) (g:Int):Int:=(R.filter (fun e=>e.group==g)).length
def chg (g:Int) (ch:Int ->Int ->Int×Int) (e:Ent):Ent:=if e.group=g then ⟨e.id,(ch e.group e.age).1,(ch e.group e.age).2⟩ else e
def akA (g:Int) (ch:Int ->Int ->Int×Int) (e:Ent):Bool:=e.group==g&& !(ch e.group e.age==(e.group,e.age))
def adc (R:List Ent) (g:Int) (ch:Int ->Int ->Int×Int):List Ent×Int:=(R.map (chg g ch),(R.filter (akA g ch)).length)
def adV (g a:Int):Int×Int:=(g,min1 (IntKind.i64.wrap (a+1)) 3)
def ah2 (R:List Ent) (f t:Int):List Ent×Int:=if t<0\/16777216<t then (R,0) else adc R f (fun _ a=>(t,a))
theorem apk {x y:Ent} (hn:∀ e∈R,e.id≠x.id):y∈insR R x↔y=x\/y∈R:=by
 unfold insR
 simp only [List.mem_append,List.mem_filter,List.mem_cons,decide_eq_true_eq]
 constructor
 ·rintro (⟨h,_⟩ | rfl | ⟨h,_⟩)
  ·exact .inr h
  ·exact .inl rfl
  ·exact .inr h
 ·rintro (rfl | h)
  ·exact .inr (.inl rfl)
  ·have:=hn y h
   rcases Int.lt_trichotomy y.id x.id with h1 | h1 | h1
   ·exact .inl ⟨h,h1⟩
   ·exact absurd h1 this
   ·exact .inr (.inr ⟨h,h1⟩)
theorem Good.ins (G:Good R) {x:Ent} (hn:∀ e∈R,e.id≠x.id) (hx:(0<=x.id/\x.id<=16777216)/\(0<=x.group/\x.group<=16777216)/\0<=x.age/\x.age<=3):Good (insR R x):=by
 refine ⟨?_,fun e he=> ?_⟩
 ·unfold insR
  rw [List.pairwise_append,List.pairwise_cons]
  refine ⟨G.rise.filter _,⟨fun y hy=> ?_,G.rise.filter _⟩,fun a ha b hb=> ?_⟩
  ·simpa using (List.mem_filter.1 hy).2
  ·have h1:a.id<x.id:=by simpa using (List.mem_filter.1 ha).2
   rcases List.mem_cons.1 hb with rfl | hb
   ·exact h1
   ·have h2:x.id<b.id:=by simpa using (List.mem_filter.1 hb).2
    omega
 ·rcases (apk hn).1 he with rfl | h
  ·exact hx
  ·exact G.ok e h
theorem Good.add (G:Good R) (id g:Int) (old:Bool):Good (gAdd R id g old).1:=by
 unfold gAdd
 split
 ·exact G
 ·next hb=>
  split
  ·exact G
  ·next hf=>
   have hf:fnd R id=none:=by simpa using hf
   refine G.ins ((akm G.rise).1 hf) ?_
   unfold gBad at hb
   refine ⟨⟨?_,?_⟩,⟨?_,?_⟩,?_⟩<;>simp only<;>first | omega | (split<;>omega)
theorem Good.filter (G:Good R) (p:Ent ->Bool):Good (R.filter p):=⟨G.rise.filter _,fun e he=>G.ok e (List.mem_filter.1 he).1⟩
theorem Good.drop (G:Good R) (id:Int):Good (adX R id).1:=by
 unfold adX;split
 ·exact G.filter _
 ·exact G
theorem Good.map (G:Good R) (f:Ent ->Ent) (hid:∀ e,(f e).id=e.id) (hok:∀ e∈R,(0<=(f e).group/\(f e).group<=16777216)/\0<=(f e).age/\(f e).age<=3):Good (R.map f):=by
 refine ⟨?_,fun e he=> ?_⟩
 ·rw [List.pairwise_map];exact G.rise.imp (fun h=>by rw [hid,hid];exact h)
 ·obtain ⟨x,hx,rfl⟩:=List.mem_map.1 he
  exact ⟨by rw [hid];exact (G.ok x hx).1,hok x hx⟩
theorem Good.touch (G:Good R) (id:Int):Good (abZ R id).1:=by
 unfold abZ;split
 ·refine G.map _ (fun e=>by split<;>rfl) (fun e he=> ?_)
  have:=G.ok e he
  split
  ·exact ⟨this.2.1,(show (0:Int)<=0 by decide),(show (0:Int)<=3 by decide)⟩
  ·exact this.2
 ·exact G
theorem aod (g:Int) (ch:Int ->Int ->Int×Int) (e:Ent):(chg g ch e).id=e.id:=by unfold chg;split<;>rfl
theorem Good.each (G:Good R) (g:Int) (ch:Int ->Int ->Int×Int) (hch:∀ e∈R,e.group=g ->(0<=(ch e.group e.age).1/\(ch e.group e.age).1<=16777216)/\0<=(ch e.group e.age).2/\(ch e.group e.age).2<=3):Good (adc R g ch).1:=by
 refine G.map _ (aod g ch) (fun e he=> ?_)
 unfold chg;split
 ·next h=>exact hch e he h
 ·exact (G.ok e he).2
theorem aGp {g a:Int} (h0:0<=a) (h3:a<=3):adV g a=(g,if a<3 then a+1 else 3):=by
 unfold adV min1
 rw [w64 (by omega) (by omega)]
 congr 1
 split<;>split<;>omega
theorem Good.age (G:Good R) (g:Int):Good (adc R g adV).1:=by
 refine G.each g adV (fun e he _=> ?_)
 have:=G.ok e he
 rw [aGp this.2.2.1 this.2.2.2]
 refine ⟨this.2.1,?_⟩
 simp only;split<;>omega
theorem Good.move (G:Good R) (f t:Int):Good (ah2 R f t).1:=by
 unfold ah2;split
 ·exact G
 ·exact G.each f _ (fun e he _=>⟨by simp only;omega,(G.ok e he).2.2⟩)
end Go.Kc
end
section
set_option maxRecDepth 100000
namespace Go.Kc
open Go Go.Vc Go.Sp
namespace By
def pg (n:Nat) (i:Int):Prop:=0<=i/\i<n
instance (n:Nat) (i:Int):Decidable (pg n i):=inferInstanceAs (Decidable (_/\_))
def pgAt (X:List UInt8) (i:Int):List UInt8:=(X.drop (16*i.toNat)).take 16
def wrAt (X:List UInt8) (i:Int) (t:List UInt8):List UInt8:=X.take (16*i.toNat)++t++X.drop (16*i.toNat+16)
def zs:List UInt8:=List.replicate 16 0
def rd (n:Nat) (X:List UInt8) (i:Int):List UInt8×Int:=if pg n i then (pgAt X i,0) else ([],1)
def wr (n:Nat) (X:List UInt8) (i:Int) (t:List UInt8):List UInt8×Int:=if pg n i/\t.length=16 then (wrAt X i t,0) else (X,1)
def gt (n:Nat) (X:List UInt8) (i a:Int):UInt8×Int:=if pg n i/\0<=a/\a<16 then (X.getD (16*i.toNat+a.toNat) 0,0) else (0,1)
def pt (n:Nat) (X:List UInt8) (i a:Int) (b:UInt8):List UInt8×Int:=if pg n i/\0<=a/\a<16 then (X.set (16*i.toNat+a.toNat) b,0) else (X,1)
def cl (n:Nat) (X:List UInt8) (i:Int):List UInt8×Int:=wr n X i zs
variable {n:Nat} {X:List UInt8} {i j:Int}
theorem aeJ (h:X.length=16*n) (hi:pg n i):(pgAt X i).length=16:=by
 obtain ⟨h1,h2⟩:=hi
 simp only [pgAt,List.length_take,List.length_drop];omega
theorem anW {t:List UInt8} (h:X.length=16*n) (hi:pg n i) (ht:t.length=16):(wrAt X i t).length=16*n:=by
 obtain ⟨h1,h2⟩:=hi
 simp only [wrAt,List.length_append,List.length_take,List.length_drop];omega
theorem aDT {t:List UInt8} (h:X.length=16*n) (hi:pg n i) (ht:t.length=16):acf (u8s X) (16*i.toNat) (u8s t)=u8s (wrAt X i t):=by
 obtain ⟨h1,h2⟩:=hi
 rw [aft _ _ _ (by simp;omega)]
 simp [u8s,wrAt,ht,List.map_append]
theorem aaV {k:Nat} (hk:k<16):(pgAt X i)[k]? =X[16*i.toNat+k]? :=by
 simp [pgAt,hk]
theorem asP (h:X.length=16*n) (t:List UInt8):(wr n X i t).1.length=16*n:=by
 unfold wr;split
 ·next hh=>exact anW h hh.1 hh.2
 ·exact h
theorem aFI (h:X.length=16*n) (a:Int) (b:UInt8):(pt n X i a b).1.length=16*n:=by
 unfold pt;split<;>simpa
end By
end Go.Kc
end
section
namespace Go.Kc
open Go Go.Kt Go.Sp
def ab6 (R:List Ent) (gs:List Int):List Int:= [3,2,1,0].flatMap fun a:Int=>((R.filter fun e=>gs.contains e.group&&e.age==a).map Ent.id)
structure aaz where
 min:Int
 low:Int
 whole:Bool
deriving DecidableEq
structure Store where
 pool:List Bool
 by_:List UInt8
 used:List Cnt
structure Cs where
 tree:List G
 fr:Store
 sl:Store
 files:FS
 gens:List Ent
 log:List Int
 pages:TS
 kept:Int ->Option Int
 guards:List aaz
def sNew (n:Int):Store:=⟨pNew n,List.replicate (16*(min (max n 0).toNat 1024)) 0,cNew⟩
def new (frames slots:Int) (sizes:List Int):Cs:=⟨Kt.new,sNew frames,sNew slots,fNew sizes,[],List.replicate 64 0,TS.zero,fun _=>none,[⟨0,0,false⟩]⟩
def Store.give (s:Store) (at_:Int) (ch:List Int):Store:=⟨(afa s.pool at_).1,(By.cl s.pool.length s.by_ at_).1,(aaC s.used ch 1).1⟩
def Cs.chain (S:Cs) (g:Int):List Int:=aac S.tree g
def Cs.live (S:Cs) (g:Int):Bool:=aaf S.tree g
def Cs.memory (S:Cs) (g:Int):Int:=cUse S.fr.used g
def Cs.swap (S:Cs) (g:Int):Int:=cUse S.sl.used g
def Cs.gAt (S:Cs) (g:Int):aaz:=S.guards.getD g.toNat ⟨0,0,false⟩
def Cs.addGroup (S:Cs) (p:Int):Cs×Int×Int:=
 let r:=addI S.tree p
 if r.2.2=0 then ({S with tree:=r.1,guards:=S.guards++ [⟨0,0,false⟩]},r.2) else (S,r.2)
def TS.all (T:TS):List Int:=((List.range T.next.toNat).filter fun i:Nat=>(T.pg i).isSome).map Int.ofNat
def TS.those (T:TS) (o:Int):List Int:=((List.range T.next.toNat).filter fun i:Nat=>match T.pg i with | some p=>p.owner==o | none=>false).map Int.ofNat
def TS.ownAll (T:TS) (ids:List Int) (o:Int):TS:=ids.foldl (fun T id=>(T.own id o).1) T
def Cs.remove (S:Cs) (g:Int):Cs×Int:=
 let r:=aby S.tree g
 if r.2=0 then
  let up:=ab9 S.tree g
  ({S with tree:=r.1,pages:=S.pages.ownAll (S.pages.those g) up,gens:=(ah2 S.gens g up).1,fr:= {S.fr with used:=(aaC S.fr.used [g] (cUse S.fr.used g)).1},sl:= {S.sl with used:=(aaC S.sl.used [g] (cUse S.sl.used g)).1}},0)
 else (S,r.2)
def Cs.setG (S:Cs) (g:Int) (x:aaz):Cs:= {S with guards:=S.guards.set g.toNat x}
def Cs.limit (S:Cs) (g what n:Int):Cs×Int:=
 if S.live g=false then (S,2) else if isA n=false then (S,1)
 else if what=0 then (S.setG g {S.gAt g with min:=n},0)
 else if what=1 then (S.setG g {S.gAt g with low:=n},0)
 else if what=2 then ({S with fr:= {S.fr with used:=(aaK S.fr.used g n).1}},(aaK S.fr.used g n).2)
 else if what=3 then ({S with sl:= {S.sl with used:=(aaK S.sl.used g n).1}},(aaK S.sl.used g n).2)
 else if what=4 then (if 1<n then (S,1) else (S.setG g {S.gAt g with whole:=n==1},0))
 else (S,1)
def abn (R:List Ent):List Int ->List Ent×Int
 | []=>(R,0)
 | g::gs=>let r:=adc R g adV;let q:=abn r.1 gs;(q.1,r.2+q.2)
def Cs.age (S:Cs) (t:Int):Cs×Int:=let r:=abn S.gens (abe S.tree t);({S with gens:=r.1},r.2)
def Cs.text (S:Cs) (p:Pg):List UInt8:=
 if p.place=1 then (By.rd S.fr.pool.length S.fr.by_ p.at_).1 else if p.place=2 then (By.rd S.sl.pool.length S.sl.by_ p.at_).1 else (asU S.files (p.kf,p.ki)).1
def Cs.clean (S:Cs) (id:Int) (p:Pg):Cs:=
 if 0<=p.kf/\p.dirty=true then {S with files:=(aht S.files (p.kf,p.ki) (S.text p)).1,pages:=(S.pages.mark id false).1} else S
def Cs.away (S:Cs) (id:Int) (p:Pg) (ch:List Int):Cs×Bool:=
 if ch.any (fun g=>decide (aab S.sl.used g<=cUse S.sl.used g)) then (S,false) else
 let t:=abq S.sl.pool
 if t.2.2≠0 then (S,false) else
 ({S with sl:=⟨t.1,(By.wr t.1.length S.sl.by_ t.2.1 (S.text p)).1,(cTry S.sl.used ch 1).1⟩,pages:=(S.pages.put id 2 t.2.1).1},true)
def Cs.leave (S:Cs) (id:Int) (p:Pg) (ch:List Int):Cs:=
 {S with fr:=S.fr.give p.at_ ch,gens:=(adX S.gens id).1,log:=(went S.log p.owner).1,kept:=upd S.kept id (some (went S.log p.owner).2)}
def Cs.out (S:Cs) (id:Int):Cs×Bool:=
 let p:=(S.pages.get id).1
 let ch:=S.chain p.owner
 if 0<=p.kf then
  let S1:=S.clean id p
  ({S1 with pages:=(S1.pages.put id 0 0).1}.leave id p ch,true)
 else
  let r:=S.away id p ch
  if r.2 then (r.1.leave id p ch,true) else (S,false)
def Cs.nodes (S:Cs) (own:aaz ->Int):List Nod:=
 (List.range S.guards.length).map fun g:Nat=>if S.live g then ⟨((S.tree[g]?).map G.up).getD (-1),S.memory g,own (S.gAt g)⟩ else ⟨((S.tree[g]?).map G.up).getD (-1),0,0⟩
def Cs.held (S:Cs) (t:Int) (own:aaz ->Int):List Bool:=
 let l:=S.nodes own
 (List.range l.length).map fun g:Nat=>ajn l (adu l t) t g
def pass (held:Int ->Bool):List Int ->Cs ->Cs×Bool
 | [],S=>(S,false)
 | id::r,S=>
  if held (S.pages.get id).1.owner then pass held r S
  else let o:=S.out id
   if o.2 then (o.1,true) else pass held r o.1
def bAt (l:List Bool) (g:Int):Bool:=l.getD g.toNat false
def Cs.evictG (S:Cs) (t:Int) (gs:List Int) (all:Bool):Cs×Bool:=
 if S.live t=false then (S,false) else
 let mn:=S.held t aaz.min
 let lw:=S.held t aaz.low
 let o:=ab6 S.gens gs
 let r:=pass (fun g=>bAt mn g||bAt lw g) o S
 if r.2 then (r.1,true) else if all then pass (fun g=>bAt mn g) o r.1 else (r.1,false)
def Cs.evict (S:Cs) (t:Int):Cs×Bool:=S.evictG t (abe S.tree t) true
def evictN (t:Int) (gs:List Int):Nat ->Cs ->Cs×Int
 | 0,S=>(S,0)
 | n+1,S=>let r:=S.evictG t gs false;let q:=evictN t gs n r.1;(q.1,(if r.2 then 1 else 0)+q.2)
def shareOut (t:Int):List (Int×Int) ->Cs ->Cs×Int
 | [],S=>(S,0)
 | (g,k)::r,S=>let a:=evictN t [g] k.toNat S;let b:=shareOut t r a.1;(b.1,a.2+b.2)
def evictM (t:Int):Nat ->Cs ->Cs×Int
 | 0,S=>(S,0)
 | n+1,S=>let r:=S.evict t;if r.2 then let q:=evictM t n r.1;(q.1,1+q.2) else (r.1,0)
def Cs.weights (S:Cs) (t:Int):List Int:=
 (abe S.tree t).map fun g=>if bAt (S.held t aaz.min) g=false/\bAt (S.held t aaz.low) g=false then ajm S.gens g else 0
def Cs.shrink (S:Cs) (t n:Int):Cs×Int:=
 if S.live t=false\/n<1\/1000<n then (S,0) else
 let a:=shareOut t ((abe S.tree t).zip (ab3 n (S.weights t))) S
 let b:=evictM t (n - a.2).toNat a.1
 (b.1,a.2+b.2)
def take (g:Int):Nat ->Cs ->Cs×Int×Int×Int
 | 0,S=>(S, -1,0,12)
 | n+1,S=>
  let ch:=S.chain g
  let t:=cTry S.fr.used ch 1
  let full (S1:Cs) (tg:Int):Cs×Int×Int×Int:=
   let r:=S1.evict tg
   if r.2 then take g n r.1 else (r.1, -1,tg,12)
  if t.2.2=0 then
   let p:=abq S.fr.pool
   if p.2.2=0 then ({S with fr:= {S.fr with pool:=p.1,used:=t.1}},p.2.1, -1,0)
   else full {S with fr:= {S.fr with used:=(aaC t.1 ch 1).1}} 0
  else full S t.2.1
def Cs.take (S:Cs) (g:Int):Cs×Int×Int×Int:=Kc.take g (S.gens.length+1) S
def Cs.place (S:Cs) (id at_ g:Int) (text:List UInt8) (old:Bool):Cs:=
 {S with fr:= {S.fr with by_:=(By.wr S.fr.pool.length S.fr.by_ at_ text).1},pages:=((S.pages.own id g).1.put id 1 at_).1,gens:=(gAdd S.gens id g old).1}
def Cs.withT (S:Cs) (g:Int) (text:List UInt8):Cs×Int×Int×Int:=
 let t:=S.take g
 if t.2.2.2≠0 then (t.1, -1,t.2.2.1,t.2.2.2) else
 let m:=t.1.pages.make (-1) 0 g
 ({t.1 with pages:=m.1}.place m.2.1 t.2.1 g text false,m.2.1, -1,0)
def Cs.fresh (S:Cs) (g:Int):Cs×Int×Int×Int:=if S.live g=false then (S, -1, -1,2) else S.withT g By.zs
def Cs.copy (S:Cs) (id g:Int):Cs×Int×Int×Int:=
 let p:=S.pages.get id
 if p.2≠0\/S.live g=false\/p.1.place=0 then (S, -1, -1,2) else S.withT g (S.text p.1)
def Cs.bring (S:Cs) (id g:Int):Cs×Int×Int:=
 let p:=S.pages.get id
 if p.2≠0\/S.live g=false\/(p.1.place=0/\p.1.kf<0) then (S, -1,2)
 else if p.1.place=1 then ({S with gens:=(abZ S.gens id).1}, -1,0)
 else
  let o:=if p.1.place=0 then g else p.1.owner
  let t:=S.take o
  if t.2.2.2≠0 then (t.1,t.2.2.1,t.2.2.2) else
  let text:=t.1.text p.1
  let S2:=if p.1.place=2 then {t.1 with sl:=t.1.sl.give p.1.at_ (t.1.chain o)} else t.1
  let near:=came S2.log ((S2.kept id).getD 0) (S2.memory o)
  (S2.place id t.2.1 o text (!near), -1,0)
def Cs.openF (S:Cs) (k:Int×Int) (g:Int):Cs×Int×Int×Int:=
 if fHas S.files k=false\/S.live g=false then (S, -1, -1,2) else
 let made:=decide (S.pages.of k<0)
 let m:=S.pages.make k.1 k.2 g
 let S1:=if made then {S with pages:=m.1} else S
 let id:=if made then m.2.1 else S.pages.of k
 let b:=S1.bring id g
 if b.2.2=0 then (b.1,id, -1,0)
 else if made then ({b.1 with pages:=(b.1.pages.drop id).1}, -1,b.2.1,b.2.2)
 else (b.1, -1,b.2.1,b.2.2)
def Cs.here (S:Cs) (id:Int):Int×Bool:=let p:=S.pages.get id;(p.1.at_,p.2==0&&p.1.place==1)
def Cs.get (S:Cs) (id at_:Int):Cs×Int×Int:=
 let h:=S.here id
 if h.2=false then (S,0,2) else
 let r:=By.gt S.fr.pool.length S.fr.by_ h.1 at_
 (if r.2=0 then {S with gens:=(abZ S.gens id).1} else S,(r.1.toNat:Int),r.2)
def Cs.put (S:Cs) (id at_:Int) (b:UInt8):Cs×Int:=
 let h:=S.here id
 if h.2=false then (S,2) else
 let r:=By.pt S.fr.pool.length S.fr.by_ h.1 at_ b
 if r.2=0 then ({S with fr:= {S.fr with by_:=r.1},gens:=(abZ S.gens id).1,pages:=(S.pages.mark id true).1},0) else (S,r.2)
def Cs.refer (S:Cs) (id n:Int):Cs×Int:=
 let r:=S.pages.refer id n
 if r.2.2≠0\/0<r.2.1 then ({S with pages:=r.1},r.2.2) else
 let S1:= {S with pages:=r.1}
 let p:=(S1.pages.get id).1
 let ch:=S1.chain p.owner
 let S2:=if p.place=1 then
   let S3:=S1.clean id p
   {S3 with fr:=S3.fr.give p.at_ ch,gens:=(adX S3.gens id).1}
  else if p.place=2 then {S1 with sl:=S1.sl.give p.at_ ch} else S1
 let d:=(S2.pages.put id 0 0).1.drop id
 ({S2 with pages:=d.1},d.2)
end Go.Kc
end
section
namespace Go.Kc
open Go.Kt
def cntP (n:Nat) (f:Nat ->Bool):Nat:=(List.range n).countP f
theorem ahq (n:Nat) (f:Nat ->Bool):cntP (n+1) f=cntP n f+(f n).toNat:=by
 unfold cntP
 rw [List.range_succ,List.countP_append]
 cases h:f n<;>simp [List.countP_cons,h]
theorem ape {n:Nat} {f f':Nat ->Bool} (h:∀ i,i<n ->f' i=f i):cntP n f'=cntP n f:=by
 induction n with
 | zero=>rfl
 | succ n ih=>rw [ahq,ahq,ih (fun i hi=>h i (by omega)),h n (by omega)]
theorem aA0 {n k:Nat} {f f':Nat ->Bool} (hk:k<n) (h:∀ i,i<n ->i≠k ->f' i=f i):cntP n f'+(f k).toNat=cntP n f+(f' k).toNat:=by
 induction n with
 | zero=>omega
 | succ n ih=>
  rw [ahq,ahq]
  by_cases e:k=n
  ·subst e
   rw [ape (fun i hi=>h i (by omega) (by omega))];omega
  ·have h1:=ih (by omega) (fun i hi=>h i (by omega))
   have h2:=h n (by omega) (fun x=>e x.symm)
   rw [h2];omega
theorem aFl {n:Nat} {f f':Nat ->Bool} (h:∀ i,i<n ->f i=true ->f' i=true):cntP n f<=cntP n f':=by
 induction n with
 | zero=>exact Nat.le_refl _
 | succ n ih=>
  rw [ahq,ahq]
  have h1:=ih (fun i hi=>h i (by omega))
  have h2:=h n (by omega)
  cases hf:f n with
  | false=>simp;omega
  | true=>rw [h2 hf];omega
theorem azl {n:Nat} {f:Nat ->Bool} :cntP n f=0↔∀ i,i<n ->f i=false:=by
 unfold cntP
 rw [List.countP_eq_zero]
 simp
theorem am6:∀ {T:List Bool} {i:Nat} {b c:Bool},T[i]? =some b ->(T.set i c).count true+b.toNat=T.count true+c.toNat
 | [],i,b,c,h=>by simp at h
 | x::T,0,b,c,h=>by
  simp only [List.getElem?_cons_zero,Option.some.injEq] at h
  subst h
  cases x<;>cases c<;>simp [List.count_cons]
 | x::T,i+1,b,c,h=>by
  have:=am6 (T:=T) (i:=i) (b:=b) (c:=c) (by simpa using h)
  simp only [List.set_cons_succ,List.count_cons]
  omega
theorem agM {T:List Bool} (h:(abq T).2.2=0):∃ i:Nat,T[i]? =some false/\(∀ j,j<i ->T[j]? =some true)/\abq T=(T.set i true,(i:Int),0):=by
 unfold abq at h ⊢
 cases hf:firstFree 0 T with
 | none=>rw [hf] at h;simp at h
 | some i=>
  obtain ⟨_,h2,h3⟩:=aki hf
  exact ⟨i,by simpa using h2,fun j hj=>by simpa using h3 j (by omega) hj,rfl⟩
theorem apz {T:List Bool} (h:(abq T).2.2≠0):(∀ b∈T,b=true)/\abq T=(T, -1,3):=by
 unfold abq at h ⊢
 cases hf:firstFree 0 T with
 | none=>exact ⟨aoh hf,rfl⟩
 | some i=>rw [hf] at h;simp at h
theorem aBY {T:List Bool} {i:Nat} (h:T[i]? =some true):afa T i=(T.set i false,0):=by
 have hlt:=(List.getElem?_eq_some_iff.1 h).1
 unfold afa
 rw [if_neg (by omega),Int.toNat_natCast,List.getD_eq_getElem?_getD,h]
 simp
theorem abP {g:Int} :isG g=true↔0<=g/\g<64:=by unfold isG;simp
theorem asW {g:Int} :isA g=true↔0<=g/\g<=top:=by unfold isA;simp
theorem ah4:∀ {l:List Int},nodupB l=true↔l.Nodup
 | []=>by simp [nodupB]
 | x::l=>by
  unfold nodupB
  rw [Bool.and_eq_true,ah4,List.nodup_cons]
  simp
theorem abJ {l:List Int} {n:Int} :ab2 l n=true↔(∀ g∈l,0<=g/\g<64)/\l.Nodup/\0<=n/\n<=top:=by
 unfold ab2
 rw [Bool.and_eq_true,Bool.and_eq_true,ah4,asW,List.all_eq_true]
 simp only [abP,and_assoc]
theorem anF (C:List Cnt) (g:Int) (f:Cnt ->Cnt):(cSet C g f).length=C.length:=by simp [cSet]
theorem acV (n:Int):∀ (l:List Int) (C:List Cnt),(cAdd C l n).length=C.length
 | [],_=>rfl
 | g::l,C=>by
  show (cAdd (cSet C g _) l n).length=_
  rw [acV n l,anF]
theorem akf {C:List Cnt} {g h:Int} (f:Cnt ->Cnt) (hC:C.length=64) (hg:isG g=true) (hh:isG h=true):(cSet C g f).getD h.toNat ⟨0,0⟩=if h=g then f (C.getD g.toNat ⟨0,0⟩) else C.getD h.toNat ⟨0,0⟩:=by
 rw [abP] at hg hh
 unfold cSet
 simp only [List.getD_eq_getElem?_getD]
 by_cases e:h=g
 ·subst e
  rw [if_pos rfl,List.getElem?_set_self (by omega)];rfl
 ·rw [if_neg e,List.getElem?_set_ne (by omega)]
theorem aiC (n:Int):∀ (l:List Int) {C:List Cnt} {h:Int},C.length=64 ->(∀ g∈l,0<=g/\g<64) ->l.Nodup ->isG h=true ->
  (cAdd C l n).getD h.toNat ⟨0,0⟩=if h∈l then {C.getD h.toNat ⟨0,0⟩ with use:=(C.getD h.toNat ⟨0,0⟩).use+n} else C.getD h.toNat ⟨0,0⟩
 | [],_,_,_,_,_,_=>by simp [cAdd]
 | g::l,C,h,hC,hl,hn,hh=>by
  have hg:isG g=true:=abP.2 (hl g (by simp))
  have hn':=List.nodup_cons.1 hn
  show (cAdd (cSet C g _) l n).getD h.toNat _=_
  rw [aiC n l (by rw [anF];exact hC) (fun x hx=>hl x (by simp [hx])) hn'.2 hh,akf _ hC hg hh]
  by_cases e:h=g
  ·subst e
   rw [if_neg hn'.1,if_pos rfl,if_pos (by simp)]
  ·by_cases e2:h∈l
   ·rw [if_pos e2,if_neg e,if_pos (by simp [e2])]
   ·rw [if_neg e2,if_neg e,if_neg (by simp [e,e2])]
theorem acm {n:Int} {l:List Int} {C:List Cnt} {h:Int} (hC:C.length=64) (hl:∀ g∈l,0<=g/\g<64) (hn:l.Nodup):cUse (cAdd C l n) h=cUse C h+if h∈l then n else 0:=by
 unfold cUse cOf
 cases hh:isG h with
 | true=>
  simp only [if_true]
  rw [aiC n l hC hl hn hh]
  split<;>simp
 | false=>
  have:h∉l:=fun hm=>by rw [abP.2 (hl h hm)] at hh;cases hh
  rw [if_neg this];simp
theorem adU {n:Int} {l:List Int} {C:List Cnt} {h:Int} (hC:C.length=64) (hl:∀ g∈l,0<=g/\g<64) (hn:l.Nodup):aab (cAdd C l n) h=aab C h:=by
 unfold aab cOf
 cases hh:isG h with
 | true=>
  simp only [if_true]
  rw [aiC n l hC hl hn hh]
  split<;>simp
 | false=>simp
theorem aoa {C:List Cnt} {g:Int} (hg:0<=g/\g<64):C.getD g.toNat ⟨0,0⟩=cOf C g:=by
 unfold cOf;rw [abP.2 hg];rfl
theorem aco.of {C:List Cnt} (h:aco C) (g:Int):(0<=(cOf C g).use/\(cOf C g).use<=top)/\0<=(cOf C g).limit/\(cOf C g).limit<=top:=by
 unfold cOf
 split
 ·next hg=>
  rw [abP] at hg
  have hlt:g.toNat<C.length:=by rw [h.len];omega
  rw [List.getD_eq_getElem?_getD,List.getElem?_eq_getElem hlt]
  exact h.ok _ (List.getElem_mem hlt)
 ·exact ⟨⟨Int.le_refl _,by decide⟩,Int.le_refl _,by decide⟩
theorem aco.new:aco cNew:=⟨rfl,fun x hx=>by
 rw [List.eq_of_mem_replicate hx];exact ⟨⟨by decide,by decide⟩,by decide,by decide⟩⟩
theorem aco.mk' {C:List Cnt} (hC:C.length=64) (h:∀ g:Int,0<=g ->g<64 ->(0<=cUse C g/\cUse C g<=top)/\0<=aab C g/\aab C g<=top):aco C:=by
 refine ⟨hC,fun x hx=> ?_⟩
 obtain ⟨i,hi,rfl⟩:=List.mem_iff_getElem.1 hx
 have:=h i (by omega) (by omega)
 unfold cUse aab cOf at this
 rw [abP.2 ⟨by omega,by omega⟩] at this
 simpa [hi] using this
theorem afN {C:List Cnt} {l:List Int} {n:Int} (h:(cTry C l n).2.2=0):ab2 l n=true/\cTry C l n=(cAdd C l n, -1,0)/\∀ g∈l,0<n ->cUse C g+n<=aab C g:=by
 unfold cTry at h ⊢
 cases hr:ab2 l n with
 | false=>rw [hr] at h;simp at h
 | true=>
  rw [hr] at h
  simp only [Bool.true_eq_false,if_false] at h ⊢
  cases hf:l.find? (fun g=>decide (0<n)&&decide ((C.getD g.toNat ⟨0,0⟩).limit<(C.getD g.toNat ⟨0,0⟩).use+n)) with
  | some g=>rw [hf] at h;simp at h
  | none=>
   refine ⟨trivial,rfl,fun g hg h0=> ?_⟩
   have:=List.find?_eq_none.1 hf g hg
   have hgg:=(abJ.1 hr).1 g hg
   rw [aoa hgg] at this
   simp only [Bool.and_eq_true,decide_eq_true_eq,not_and] at this
   unfold cUse aab
   have:=this h0;omega
theorem aeO {C:List Cnt} {l:List Int} {n:Int} (hr:ab2 l n=true) (h:(cTry C l n).2.2≠0):∃ g∈l,cTry C l n=(C,g,22)/\0<n/\aab C g<cUse C g+n:=by
 unfold cTry at h ⊢
 rw [hr] at h ⊢
 simp only [Bool.true_eq_false,if_false] at h ⊢
 cases hf:l.find? (fun g=>decide (0<n)&&decide ((C.getD g.toNat ⟨0,0⟩).limit<(C.getD g.toNat ⟨0,0⟩).use+n)) with
 | none=>rw [hf] at h;simp at h
 | some g=>
  have hg:=List.mem_of_find?_eq_some hf
  have hp:=List.find?_some hf
  have hgg:=(abJ.1 hr).1 g hg
  rw [aoa hgg] at hp
  simp only [Bool.and_eq_true,decide_eq_true_eq] at hp
  exact ⟨g,hg,rfl,hp.1,hp.2⟩
theorem aeN {C:List Cnt} {l:List Int} {n:Int} (hr:ab2 l n=true) (h:∀ g∈l,n<=cUse C g):aaC C l n=(cAdd C l (-n),0):=by
 unfold aaC
 rw [hr]
 simp only [Bool.true_eq_false,if_false]
 have:l.find? (fun g=>decide ((C.getD g.toNat ⟨0,0⟩).use<n))=none:=by
  rw [List.find?_eq_none]
  intro g hg
  rw [aoa ((abJ.1 hr).1 g hg)]
  have:=h g hg
  unfold cUse at this
  simp;omega
 rw [this]
theorem ahp {C:List Cnt} {l:List Int} {n:Int} (hr:ab2 l n=true) (h:∃ g∈l,cUse C g<n):aaC C l n=(C,2):=by
 unfold aaC
 rw [hr]
 simp only [Bool.true_eq_false,if_false]
 obtain ⟨g,hg,hl⟩:=h
 cases hf:l.find? (fun g=>decide ((C.getD g.toNat ⟨0,0⟩).use<n)) with
 | some x=>rfl
 | none=>
  have:=List.find?_eq_none.1 hf g hg
  rw [aoa ((abJ.1 hr).1 g hg)] at this
  unfold cUse at hl
  simp at this;omega
theorem aco.try {C:List Cnt} (h:aco C) (l:List Int) (n:Int):aco (cTry C l n).1:=by
 by_cases h0:(cTry C l n).2.2=0
 ·obtain ⟨hr,he,hle⟩:=afN h0
  rw [he]
  obtain ⟨h1,h2,h3,h4⟩:=abJ.1 hr
  refine aco.mk' (by rw [acV];exact h.len) (fun g hg hg'=> ?_)
  rw [acm h.len h1 h2,adU h.len h1 h2]
  have ho:=h.of g
  unfold cUse aab at*
  split
  ·next hm=>
   rcases Int.lt_or_le 0 n with hp | hp
   ·have:=hle g hm hp
    omega
   ·have:n=0:=by omega
    subst this;omega
  ·omega
 ·cases hr:ab2 l n with
  | false=>
   have:cTry C l n=(C, -1,1):=by unfold cTry;rw [hr];rfl
   rw [this];exact h
  | true=>
   obtain ⟨g,_,he,_⟩:=aeO hr h0
   rw [he];exact h
theorem aco.give {C:List Cnt} (h:aco C) (l:List Int) (n:Int):aco (aaC C l n).1:=by
 cases hr:ab2 l n with
 | false=>
  have:aaC C l n=(C,1):=by unfold aaC;rw [hr];rfl
  rw [this];exact h
 | true=>
  by_cases hb:∃ g∈l,cUse C g<n
  ·rw [ahp hr hb];exact h
  ·have hb':∀ g∈l,n<=cUse C g:=fun g hg=>Int.not_lt.1 (fun hlt=>hb ⟨g,hg,hlt⟩)
   rw [aeN hr hb']
   obtain ⟨h1,h2,h3,h4⟩:=abJ.1 hr
   refine aco.mk' (by rw [acV];exact h.len) (fun g hg hg'=> ?_)
   rw [acm h.len h1 h2,adU h.len h1 h2]
   have ho:=h.of g
   unfold cUse aab at*
   split
   ·next hm=>have:=hb' g hm;omega
   ·omega
theorem aco.setLimit {C:List Cnt} (h:aco C) (g n:Int):aco (aaK C g n).1:=by
 unfold aaK
 split
 ·next hg=>
  rw [Bool.and_eq_true] at hg
  refine aco.mk' (by rw [anF];exact h.len) (fun x hx hx'=> ?_)
  have hxg:isG x=true:=abP.2 ⟨hx,hx'⟩
  unfold cUse aab cOf
  rw [hxg,if_pos rfl,akf _ h.len hg.1 hxg]
  have ho:=h.of x
  have ho2:=h.of g
  have ha:=asW.1 hg.2
  unfold cOf at ho ho2
  rw [hxg,if_pos rfl] at ho
  rw [hg.1,if_pos rfl] at ho2
  split
  ·exact ⟨ho2.1,ha⟩
  ·exact ho
 ·exact h
theorem aes {C:List Cnt} (hC:C.length=64) (g n x:Int):cUse (aaK C g n).1 x=cUse C x:=by
 unfold aaK
 split
 ·next hg=>
  rw [Bool.and_eq_true] at hg
  unfold cUse cOf
  cases hx:isG x with
  | false=>simp
  | true=>
   simp only [if_true]
   rw [akf _ hC hg.1 hx]
   split
   ·next e=>subst e;rfl
   ·rfl
 ·rfl
end Go.Kc
end
section
namespace Go.Kc
open Go Go.Kt Go.Sp
theorem aan {l:List G} (h:WF l) {g:Int} (hl:aaf l g=true):(∀ x∈aac l g,0<=x/\x<64)/\(aac l g).Nodup/\(0:Int)∈aac l g/\g∈aac l g:=by
 obtain ⟨n,rfl,x,hx,hxl⟩:=aa7.1 hl
 have hlt:=(List.getElem?_eq_some_iff.1 hx).1
 have hfew:=h.few
 have e:aac l (n:Int)=(chain l n).map Int.ofNat:=by unfold aac;rw [if_pos hl,Int.toNat_natCast]
 rw [e]
 refine ⟨fun y hy=> ?_,?_,List.mem_map.2 ⟨0,aEf h n hlt,rfl⟩,?_⟩
 ·obtain ⟨z,hz,rfl⟩:=List.mem_map.1 hy
  have:=(au0 h n hlt).1 z hz
  show (0:Int)<=(z:Int)/\(z:Int)<64
  omega
 ·rw [List.nodup_iff_pairwise_ne,List.pairwise_map]
  exact (List.nodup_iff_pairwise_ne.1 (aCE h n hlt)).imp (fun hne e=>hne (Int.ofNat.inj e))
 ·obtain ⟨r,hr⟩:=awu l n
  rw [hr]
  exact List.mem_map.2 ⟨n,by simp,rfl⟩
theorem acW {l:List G} (h:WF l) {g:Int} (hl:aaf l g=true) {n:Int} (hn:0<=n/\n<=top):ab2 (aac l g) n=true:=by
 have:=aan h hl
 exact abJ.2 ⟨this.1,this.2.1,hn⟩
structure acp (T:TS):Prop where
 next:0<=T.next
 ids:∀ id p,T.pg id=some p ->0<=id/\id<T.next
 spot:∀ pl a id,T.spots (pl,a)=some id↔∃ p,T.pg id=some p/\p.place=pl/\p.at_=a/\pl≠0
 file:∀ kf ki id,T.files (kf,ki)=some id↔∃ p,T.pg id=some p/\p.kf=kf/\p.ki=ki/\0<=kf
 pl:∀ id p,T.pg id=some p ->(0<=p.place/\p.place<=2/\0<=p.at_/\(p.place=0 ->p.at_=0))/\0<=p.refs
theorem acp.zero:acp TS.zero:=⟨Int.le_refl _,fun _ _ h=>(by cases h),fun _ _ _=>⟨fun h=>(by cases h),fun ⟨_,h,_⟩=>by cases h⟩,fun _ _ _=>⟨fun h=>(by cases h),fun ⟨_,h,_⟩=>by cases h⟩,fun _ _ h=>by cases h⟩
variable {T:TS}
theorem acp.one (h:acp T) {id id':Int} {p p':Pg} (h1:T.pg id=some p) (h2:T.pg id'=some p') (h3:p.place≠0) (h4:p'.place=p.place) (h5:p'.at_=p.at_):id'=id:=by
 have a:=(h.spot p.place p.at_ id).2 ⟨p,h1,rfl,rfl,h3⟩
 have b:=(h.spot p.place p.at_ id').2 ⟨p',h2,h4,h5,h3⟩
 rw [a] at b
 exact (Option.some.inj b).symm
def Pg.to (p:Pg) (pl a:Int):Pg:= {p with place:=pl,at_:=a}
def TS.putT (T:TS) (id:Int) (p:Pg) (pl a:Int):TS:=
 {pg:=upd T.pg id (some (p.to pl a)),files:=T.files,spots:=if pl≠0 then upd (upd T.spots (p.place,p.at_) none) (pl,a) (some id) else upd T.spots (p.place,p.at_) none,next:=T.next}
theorem ac8 {κ α:Type} [DecidableEq κ] (f:κ ->Option α) (k:κ) (v:Option α):upd f k v k=v:=by unfold upd;rw [if_pos rfl]
theorem upd_ne {κ α:Type} [DecidableEq κ] (f:κ ->Option α) {k x:κ} (v:Option α) (h:x≠k):upd f k v x=f x:=by unfold upd;rw [if_neg h]
theorem acK {κ α:Type} [DecidableEq κ] {f:κ ->Option α} {k x:κ} {v:α} {y:α} (h:upd f k (some v) x=some y):(x=k/\y=v)\/(x≠k/\f x=some y):=by
 unfold upd at h
 split at h
 ·next e=>exact .inl ⟨e,(Option.some.inj h).symm⟩
 ·next e=>exact .inr ⟨e,h⟩
theorem acp.put_eq (h:acp T) {id:Int} {p:Pg} (hp:T.pg id=some p) {pl a:Int} (hpl:0<=pl/\pl<=2/\0<=a/\(pl=0 ->a=0)) (hfree:∀ q id',T.pg id'=some q ->q.place=pl ->q.at_=a ->pl≠0 ->id'=id):
  T.put id pl a=(T.putT id p pl a,0):=by
 unfold TS.put
 rw [hp]
 dsimp only
 rw [if_neg (by omega),if_neg]
 ·rfl
 ·rintro ⟨h1,h2⟩
  unfold TS.at_ at h1 h2
  cases hs:T.spots (pl,a) with
  | none=>rw [hs] at h1;simp at h1
  | some id'=>
   rw [hs] at h2
   obtain ⟨q,hq,e1,e2,e3⟩:=(h.spot pl a id').1 hs
   exact h2 (hfree q id' hq e1 e2 e3)
theorem acp.putT (h:acp T) {id:Int} {p:Pg} (hp:T.pg id=some p) {pl a:Int} (hpl:0<=pl/\pl<=2/\0<=a/\(pl=0 ->a=0)) (hfree:∀ q id',T.pg id'=some q ->q.place=pl ->q.at_=a ->pl≠0 ->id'=id):
  acp (T.putT id p pl a):=by
 have hpg:∀ x,(T.putT id p pl a).pg x=if x=id then some (p.to pl a) else T.pg x:=fun x=>rfl
 refine ⟨h.next,fun x q hq=> ?_,fun pl' a' x=> ?_,fun kf ki x=> ?_,fun x q hq=> ?_⟩
 ·rcases acK hq with ⟨rfl,rfl⟩ | ⟨_,hq⟩
  ·exact h.ids _ _ hp
  ·exact h.ids _ _ hq
 ·have hsp:(T.putT id p pl a).spots (pl',a')=some x↔((pl≠0/\pl'=pl/\a'=a)/\x=id)\/(¬ (pl≠0/\pl'=pl/\a'=a)/\¬ (pl'=p.place/\a'=p.at_)/\T.spots (pl',a')=some x):=by
   unfold TS.putT
   dsimp only
   by_cases h0:pl=0
   ·rw [if_neg (by simpa using h0)]
    unfold upd
    by_cases e:(pl',a')=(p.place,p.at_)
    ·rw [if_pos e]
     have e':pl'=p.place/\a'=p.at_:=by simpa using e
     simp [h0,e']
    ·rw [if_neg e]
     have e':¬ (pl'=p.place/\a'=p.at_):=by simpa using e
     simp [h0,e']
   ·rw [if_pos h0]
    unfold upd
    by_cases e2:(pl',a')=(pl,a)
    ·rw [if_pos e2]
     have e2':pl'=pl/\a'=a:=by simpa using e2
     simp [h0,e2',eq_comm]
    ·rw [if_neg e2]
     have e2':¬ (pl'=pl/\a'=a):=by simpa using e2
     by_cases e:(pl',a')=(p.place,p.at_)
     ·rw [if_pos e]
      have e':pl'=p.place/\a'=p.at_:=by simpa using e
      refine ⟨fun hh=>(by cases hh),?_⟩
      rintro (⟨hh,_⟩ | ⟨_,hh,_⟩)
      ·exact absurd hh.2 e2'
      ·exact absurd e' hh
     ·rw [if_neg e]
      have e':¬ (pl'=p.place/\a'=p.at_):=by simpa using e
      have:¬ (pl≠0/\pl'=pl/\a'=a):=fun hh=>e2' hh.2
      simp [this,e']
  rw [hsp]
  constructor
  ·rintro (⟨⟨h0,rfl,rfl⟩,rfl⟩ | ⟨h1,h2,h3⟩)
   ·exact ⟨_,by rw [hpg,if_pos rfl],rfl,rfl,h0⟩
   ·obtain ⟨q,hq,e1,e2,e3⟩:=(h.spot _ _ _).1 h3
    have hx:x≠id:=by
     rintro rfl
     rw [hp] at hq
     have:=Option.some.inj hq
     subst this
     exact h2 ⟨e1.symm,e2.symm⟩
    exact ⟨q,by rw [hpg,if_neg hx];exact hq,e1,e2,e3⟩
  ·rintro ⟨q,hq,e1,e2,e3⟩
   rw [hpg] at hq
   by_cases hx:x=id
   ·rw [if_pos hx] at hq
    have:=Option.some.inj hq
    subst this
    have e1:pl=pl':=e1
    have e2:a=a':=e2
    exact .inl ⟨⟨by rw [e1];exact e3,e1.symm,e2.symm⟩,hx⟩
   ·rw [if_neg hx] at hq
    refine .inr ⟨fun hh=>hx (hfree q x hq (by rw [e1,hh.2.1]) (by rw [e2,hh.2.2]) hh.1),fun hh=>hx ?_,(h.spot _ _ _).2 ⟨q,hq,e1,e2,e3⟩⟩
    exact h.one hp hq (by rw [<- hh.1];exact e3) (by rw [e1,hh.1]) (by rw [e2,hh.2])
 ·show T.files (kf,ki)=some x↔_
  rw [h.file]
  constructor
  ·rintro ⟨q,hq,e1,e2,e3⟩
   by_cases hx:x=id
   ·subst hx
    rw [hp] at hq
    have:=Option.some.inj hq
    subst this
    exact ⟨p.to pl a,by rw [hpg,if_pos rfl],e1,e2,e3⟩
   ·exact ⟨q,by rw [hpg,if_neg hx];exact hq,e1,e2,e3⟩
  ·rintro ⟨q,hq,e1,e2,e3⟩
   rw [hpg] at hq
   by_cases hx:x=id
   ·rw [if_pos hx] at hq
    have:=Option.some.inj hq
    subst this
    subst hx
    exact ⟨p,hp,e1,e2,e3⟩
   ·rw [if_neg hx] at hq
    exact ⟨q,hq,e1,e2,e3⟩
 ·rcases acK hq with ⟨rfl,rfl⟩ | ⟨_,hq⟩
  ·exact ⟨hpl,(h.pl _ _ hp).2⟩
  ·exact h.pl _ _ hq
theorem acp.set (h:acp T) {id:Int} {p q:Pg} (hp:T.pg id=some p) (h1:q.place=p.place) (h2:q.at_=p.at_) (h3:q.kf=p.kf) (h4:q.ki=p.ki) (h5:0<=q.refs):acp (T.setPg id q):=by
 have hpg:∀ x,(T.setPg id q).pg x=if x=id then some q else T.pg x:=fun x=>rfl
 have key:∀ {x:Int} {R:Pg ->Prop},(R p↔R q) ->((∃ r,T.pg x=some r/\R r)↔∃ r,(T.setPg id q).pg x=some r/\R r):=by
  intro x R hR
  rw [hpg]
  by_cases hx:x=id
  ·subst hx
   rw [if_pos rfl,hp]
   constructor
   ·rintro ⟨r,hr,h⟩;have:=Option.some.inj hr;subst this;exact ⟨q,rfl,hR.1 h⟩
   ·rintro ⟨r,hr,h⟩;have:=Option.some.inj hr;subst this;exact ⟨p,rfl,hR.2 h⟩
  ·rw [if_neg hx]
 refine ⟨h.next,fun x r hr=> ?_,fun pl a x=> ?_,fun kf ki x=> ?_,fun x r hr=> ?_⟩
 ·rcases acK hr with ⟨rfl,rfl⟩ | ⟨_,hr⟩
  ·exact h.ids _ _ hp
  ·exact h.ids _ _ hr
 ·exact (h.spot pl a x).trans (key (R:=fun r=>r.place=pl/\r.at_=a/\pl≠0) (by rw [h1,h2]))
 ·exact (h.file kf ki x).trans (key (R:=fun r=>r.kf=kf/\r.ki=ki/\0<=kf) (by rw [h3,h4]))
 ·rcases acK hr with ⟨rfl,rfl⟩ | ⟨_,hr⟩
  ·have:=(h.pl _ _ hp).1
   rw [h1,h2];exact ⟨this,h5⟩
  ·exact h.pl _ _ hr
def onB (T:TS) (pl:Int) (is:Pg ->Bool):Nat ->Bool:=fun i=>match T.pg (i:Int) with
 | some p=>p.place==pl&&is p
 | none=>false
def cnt (T:TS) (pl:Int) (is:Pg ->Bool):Nat:=cntP T.next.toNat (onB T pl is)
def below (tree:List G) (g:Int):Pg ->Bool:=fun p=>(aac tree p.owner).contains g
def pB (o:Option Pg) (pl:Int) (is:Pg ->Bool):Bool:=match o with
 | some p=>p.place==pl&&is p
 | none=>false
theorem aDw (h:acp T) {T':TS} {id:Int} {p:Pg} (hp:T.pg id=some p) (hn:T'.next=T.next) (ho:∀ x,x≠id ->T'.pg x=T.pg x) (pl:Int) (is:Pg ->Bool):
  cnt T' pl is+(pB (some p) pl is).toNat=cnt T pl is+(pB (T'.pg id) pl is).toNat:=by
 have hid:=h.ids _ _ hp
 have:=aA0 (n:=T.next.toNat) (k:=id.toNat) (f:=onB T pl is) (f':=onB T' pl is) (by omega) (fun i hi hne=>by
  unfold onB
  rw [ho (i:Int) (by omega)])
 have e:(id.toNat:Int)=id:=by omega
 have e1:onB T pl is id.toNat=pB (some p) pl is:=by unfold onB pB;rw [e,hp]
 have e2:onB T' pl is id.toNat=pB (T'.pg id) pl is:=by unfold onB pB;rw [e]
 rw [e1,e2] at this
 unfold cnt
 rw [hn];exact this
theorem aiN {T':TS} {pl:Int} {is is':Pg ->Bool} (hn:T'.next=T.next) (h:∀ x,pB (T'.pg x) pl is'=pB (T.pg x) pl is):cnt T' pl is'=cnt T pl is:=by
 unfold cnt
 rw [hn]
 exact ape (fun i _=>h i)
structure aa8 (T:TS) (tree:List G) (s:Store) (pl:Int):Prop where
 few:s.pool.length<=1024
 len:s.by_.length=16*s.pool.length
 used:aco s.used
 taken:∀ a:Nat,s.pool[a]? =some true↔∃ id p,T.pg id=some p/\p.place=pl/\p.at_=a
 use:∀ g,0<=g ->g<64 ->cUse s.used g=cnt T pl (below tree g)
 all:s.pool.count true=cnt T pl (fun _=>true)
variable {tree:List G} {s:Store}
theorem aFk {n:Nat} {X:List UInt8} (h:X.length=16*n) (i:Int):(By.cl n X i).1.length=16*n:=By.asP h _
theorem aa8.give (hT:acp T) (hw:WF tree) {pl:Int} (h:aa8 T tree s pl) (hpl:pl≠0) {id:Int} {p:Pg} (hp:T.pg id=some p) (h1:p.place=pl) (ho:aaf tree p.owner=true) {T':TS} (hn:T'.next=T.next)
  (hoth:∀ x,x≠id ->T'.pg x=T.pg x) (hid:∀ q,T'.pg id=some q ->q.place≠pl):aa8 T' tree (s.give p.at_ (aac tree p.owner)) pl:=by
 obtain ⟨hat,href⟩:=hT.pl _ _ hp
 obtain ⟨a,ha⟩:∃ a:Nat,p.at_=a:=⟨p.at_.toNat,by omega⟩
 have hta:s.pool[a]? =some true:=(h.taken a).2 ⟨id,p,hp,h1,ha⟩
 have hc:=aan hw ho
 have hp0:∀ is:Pg ->Bool,pB (T'.pg id) pl is=false:=by
  intro is
  cases hq:T'.pg id with
  | none=>rfl
  | some q=>unfold pB;simp [hid q hq]
 have hcnt:∀ is:Pg ->Bool,cnt T' pl is+(is p).toNat=cnt T pl is:=by
  intro is
  have:=aDw hT hp hn hoth pl is
  rw [hp0 is] at this
  simpa [pB,h1] using this
 have hgv:aaC s.used (aac tree p.owner) 1=(cAdd s.used (aac tree p.owner) (-1),0):=by
  refine aeN (acW hw ho ⟨by decide,by decide⟩) (fun g hg=> ?_)
  have hg':=hc.1 g hg
  rw [h.use g hg'.1 hg'.2]
  have:=hcnt (below tree g)
  have hb:below tree g p=true:=List.contains_iff_mem.2 hg
  rw [hb] at this
  simp at this;omega
 have hpool:afa s.pool p.at_=(s.pool.set a false,0):=by rw [ha];exact aBY hta
 have hused:=aco.give h.used (aac tree p.owner) 1
 rw [hgv] at hused
 unfold Store.give
 rw [hgv,hpool]
 refine ⟨by simpa using h.few,?_,hused,fun b=> ?_,fun g hg hg'=> ?_,?_⟩
 ·show (By.cl s.pool.length s.by_ p.at_).1.length=16*(s.pool.set a false).length
  rw [List.length_set];exact aFk h.len _
 ·show (s.pool.set a false)[b]? =some true↔_
  have hal:=(List.getElem?_eq_some_iff.1 hta).1
  by_cases e:a=b
  ·subst e
   rw [List.getElem?_set_self hal]
   refine ⟨fun hh=>(by cases hh),?_⟩
   rintro ⟨id',q,hq,e1,e2⟩
   by_cases hx:id'=id
   ·subst hx;exact absurd e1 (hid q hq)
   ·rw [hoth _ hx] at hq
    exact absurd (hT.one hp hq (by rw [h1];exact hpl) (by rw [e1,h1]) (by rw [e2,ha])) hx
  ·rw [List.getElem?_set_ne e,h.taken b]
   constructor
   ·rintro ⟨id',q,hq,e1,e2⟩
    have hx:id'≠id:=by
     rintro rfl
     rw [hp] at hq
     have:=Option.some.inj hq
     subst this
     omega
    exact ⟨id',q,by rw [hoth _ hx];exact hq,e1,e2⟩
   ·rintro ⟨id',q,hq,e1,e2⟩
    by_cases hx:id'=id
    ·subst hx;exact absurd e1 (hid q hq)
    ·rw [hoth _ hx] at hq
     exact ⟨id',q,hq,e1,e2⟩
 ·show cUse (cAdd s.used (aac tree p.owner) (-1)) g=_
  rw [acm h.used.len hc.1 hc.2.1,h.use g hg hg']
  have:=hcnt (below tree g)
  by_cases hm:g∈aac tree p.owner
  ·have hb:below tree g p=true:=List.contains_iff_mem.2 hm
   rw [hb] at this
   rw [if_pos hm];simp at this;omega
  ·have hb:below tree g p=false:=by unfold below;simpa using hm
   rw [hb] at this
   rw [if_neg hm];simp at this;omega
 ·show (s.pool.set a false).count true=_
  have h5:=am6 (c:=false) hta
  have h6:=hcnt (fun _=>true)
  have h7:=h.all
  simp at h5 h6;omega
theorem aa8.take_ (hT:acp T) (hw:WF tree) {pl:Int} (h:aa8 T tree s pl) {id:Int} {p q:Pg} (hp:T.pg id=some p) (h1:p.place≠pl) {T':TS} (hn:T'.next=T.next)
  (hoth:∀ x,x≠id ->T'.pg x=T.pg x) (hid:T'.pg id=some q) (hq:q.place=pl) (ho:aaf tree q.owner=true) {a:Nat} (hqa:q.at_=a) (ha:s.pool[a]? =some false)
  (hlim:∀ g∈aac tree q.owner,cUse s.used g+1<=aab s.used g) {X:List UInt8} (hX:X.length=16*s.pool.length):aa8 T' tree ⟨s.pool.set a true,X,cAdd s.used (aac tree q.owner) 1⟩ pl:=by
 have hc:=aan hw ho
 have hcnt:∀ is:Pg ->Bool,cnt T' pl is=cnt T pl is+(is q).toNat:=by
  intro is
  have:=aDw hT hp hn hoth pl is
  rw [hid] at this
  have hb:(p.place==pl)=false:=by simpa using h1
  simpa [pB,hb,hq] using this
 have hal:=(List.getElem?_eq_some_iff.1 ha).1
 refine ⟨by simpa using h.few,by simpa using hX,?_,fun b=> ?_,fun g hg hg'=> ?_,?_⟩
 ·refine aco.mk' (by rw [acV];exact h.used.len) (fun g hg hg'=> ?_)
  rw [acm h.used.len hc.1 hc.2.1,adU h.used.len hc.1 hc.2.1]
  have ho:=h.used.of g
  unfold cUse aab at*
  split
  ·next hm=>have:=hlim g hm;omega
  ·omega
 ·show (s.pool.set a true)[b]? =some true↔_
  by_cases e:a=b
  ·subst e
   rw [List.getElem?_set_self hal]
   exact ⟨fun _=>⟨id,q,hid,hq,hqa⟩,fun _=>rfl⟩
  ·rw [List.getElem?_set_ne e,h.taken b]
   constructor
   ·rintro ⟨id',r,hr,e1,e2⟩
    have hx:id'≠id:=by
     rintro rfl
     rw [hp] at hr
     have:=Option.some.inj hr
     subst this
     exact h1 e1
    exact ⟨id',r,by rw [hoth _ hx];exact hr,e1,e2⟩
   ·rintro ⟨id',r,hr,e1,e2⟩
    by_cases hx:id'=id
    ·subst hx
     rw [hid] at hr
     have:=Option.some.inj hr
     subst this
     omega
    ·rw [hoth _ hx] at hr
     exact ⟨id',r,hr,e1,e2⟩
 ·show cUse (cAdd s.used (aac tree q.owner) 1) g=_
  rw [acm h.used.len hc.1 hc.2.1,h.use g hg hg',hcnt]
  by_cases hm:g∈aac tree q.owner
  ·have hb:below tree g q=true:=List.contains_iff_mem.2 hm
   rw [hb,if_pos hm];simp
  ·have hb:below tree g q=false:=by unfold below;simpa using hm
   rw [hb,if_neg hm];simp
 ·show (s.pool.set a true).count true=_
  have h5:=am6 (c:=true) ha
  have h7:=h.all
  rw [hcnt]
  simp at h5 ⊢;omega
theorem aa8.other {pl:Int} (h:aa8 T tree s pl) {T':TS} (hn:T'.next=T.next) (hs:∀ x,(T'.pg x=T.pg x)\/((∀ p,T.pg x=some p ->p.place≠pl)/\∀ p,T'.pg x=some p ->p.place≠pl)
   \/(∃ p q,T.pg x=some p/\T'.pg x=some q/\q.place=p.place/\q.at_=p.at_/\q.owner=p.owner)):aa8 T' tree s pl:=by
 have key:∀ (x:Int) (is:Pg ->Bool),(∀ p q:Pg,p.owner=q.owner ->is p=is q) ->pB (T'.pg x) pl is=pB (T.pg x) pl is:=by
  intro x is his
  rcases hs x with e | ⟨h1,h2⟩ | ⟨p,q,h1,h2,h3,h4,h5⟩
  ·rw [e]
  ·have a:pB (T.pg x) pl is=false:=by
    cases hh:T.pg x with
    | none=>rfl
    | some p=>unfold pB;simp [h1 p hh]
   have b:pB (T'.pg x) pl is=false:=by
    cases hh:T'.pg x with
    | none=>rfl
    | some p=>unfold pB;simp [h2 p hh]
   rw [a,b]
  ·rw [h1,h2];unfold pB;dsimp only;rw [h3,his q p h5]
 have tk:∀ (x a:Int),(∃ p,T'.pg x=some p/\p.place=pl/\p.at_=a)↔∃ p,T.pg x=some p/\p.place=pl/\p.at_=a:=by
  intro x a
  rcases hs x with e | ⟨h1,h2⟩ | ⟨p,q,h1,h2,h3,h4,h5⟩
  ·rw [e]
  ·exact ⟨fun ⟨p,hp,e,_⟩=>absurd e (h2 p hp),fun ⟨p,hp,e,_⟩=>absurd e (h1 p hp)⟩
  ·rw [h1,h2]
   constructor
   ·rintro ⟨r,hr,e1,e2⟩;have:=Option.some.inj hr;subst this;exact ⟨p,rfl,by rw [<- h3,e1],by rw [<- h4,e2]⟩
   ·rintro ⟨r,hr,e1,e2⟩;have:=Option.some.inj hr;subst this;exact ⟨q,rfl,by rw [h3,e1],by rw [h4,e2]⟩
 refine ⟨h.few,h.len,h.used,fun a=> ?_,fun g hg hg'=> ?_,?_⟩
 ·rw [h.taken a]
  exact ⟨fun ⟨x,hx⟩=>⟨x,(tk x a).2 hx⟩,fun ⟨x,hx⟩=>⟨x,(tk x a).1 hx⟩⟩
 ·rw [h.use g hg hg',aiN hn (fun x=>key x _ (fun p q e=>by unfold below;rw [e]))]
 ·rw [h.all,aiN hn (fun x=>key x _ (fun _ _ _=>rfl))]
end Go.Kc
end
