/- Part of a proof about the core: of its walks and plain laws. -/
import Derived.Test.YtkjijachkcmelaaGreatDoorC12
set_option linter.all false
section
namespace Go.Kc
open Go Go.Kt Go.Sp
variable {S:Cs}
theorem Inv0.live_take {S0:Cs} (h:Inv S) (ho:Outs S S0) {g:Int} (hl:S.live g=true):S0.live g=true:=by
 unfold Cs.live;rw [(ho.kept h).tree];exact hl
theorem adQ (T:TS) {kf ki o:Int} (hn:0<=T.next/\T.next<16777216) (hok:kf<0\/T.of (kf,ki)<0):(T.make kf ki o).2=(T.next,0)/\(T.make kf ki o).1.next=T.next+1/\
  ∀ x,(T.make kf ki o).1.pg x=if x=T.next then some ⟨(aaR T kf ki).1,(aaR T kf ki).2,0,0,o,0,0,false,false⟩ else T.pg x:=by
 rw [aDE T hn hok];exact ⟨rfl,rfl,fun x=>rfl⟩
theorem aBZ {T:TS} {id g a:Int} {p:Pg} {S:Cs} {text:List UInt8} {old:Bool} (he:((S.pages.own id g).1.put id 1 a).1=(S.pages.setPg id {p with owner:=g}).putT id {p with owner:=g} 1 a) (x:Int):
  (S.place id a g text old).pages.pg x=if x=id then some {p with owner:=g,place:=1,at_:=a} else S.pages.pg x:=by
 have _:=T
 show (((S.pages.own id g).1.put id 1 a).1).pg x=_
 rw [he,abB]
 by_cases e:x=id
 ·rw [if_pos e,if_pos e];rfl
 ·rw [if_neg e,if_neg e];exact upd_ne _ _ e
theorem acb (h:Inv S) (hn:S.pages.next<16777216) {g:Int} (hl:S.live g=true) (text:List UInt8):
  (∃ S0 a,Took S S0 g a (S.take g)/\S.withT g text=(Cs.place {S0 with pages:=(S0.pages.make (-1) 0 g).1,fr:= {S0.fr with pool:=S0.fr.pool.set a true,used:=cAdd S0.fr.used (aac S0.tree g) 1}} S0.pages.next a g text false,S.pages.next, -1,0)/\
   Inv (S.withT g text).1/\(∀ x,(S.withT g text).1.pages.pg x=if x=S.pages.next then some ⟨-1,S.pages.next,1,a,g,0,0,false,false⟩ else S0.pages.pg x))\/
  ∃ S0 t,aho S S0 g t (S.take g)/\S.withT g text=(S0, -1,t,12):=by
 rcases Cs.take_spec h hl with ⟨S0,a,k⟩ | ⟨S0,t,k⟩
 ·have hk:=k.outs.kept h
  have hi:=k.outs.inv h
  have hl0:S0.live g=true:=Inv0.live_take h k.outs hl
  have hn0:S0.pages.next<16777216:=by rw [hk.next];exact hn
  have hm:=adQ S0.pages (kf:= -1) (ki:=0) (o:=g) ⟨hi.tab.next,hn0⟩ (.inl (by decide))
  have hI:=hi.toInv0.make hn0 (kf:= -1) (ki:=0) hl0 (.inl (by decide))
  have hp:(S0.pages.make (-1) 0 g).1.pg S0.pages.next=some ⟨-1,S0.pages.next,0,0,g,0,0,false,false⟩:=by rw [hm.2.2,if_pos rfl];rfl
  have hF:=hI.toFrame (id:=S0.pages.next) (g:=g) hp (.inl rfl) hl0 k.free (by have:=k.lim;rw [<- hk.tree] at this;exact this) text false
  have hres:S.withT g text=(Cs.place {S0 with pages:=(S0.pages.make (-1) 0 g).1,fr:= {S0.fr with pool:=S0.fr.pool.set a true,used:=cAdd S0.fr.used (aac S0.tree g) 1}} S0.pages.next a g text false,S.pages.next, -1,0):=by
   unfold Cs.withT
   rw [k.eq]
   dsimp only
   rw [if_neg (by decide)]
   rw [hm.1,hk.next,hk.tree]
  have hpg:∀ x,(S.withT g text).1.pages.pg x=if x=S.pages.next then some ⟨-1,S.pages.next,1,a,g,0,0,false,false⟩ else S0.pages.pg x:=by
   intro x
   rw [hres]
   have:=aBZ (T:=S0.pages) (S:= {S0 with pages:=(S0.pages.make (-1) 0 g).1,fr:= {S0.fr with pool:=S0.fr.pool.set a true,used:=cAdd S0.fr.used (aac S0.tree g) 1}}) (text:=text) (old:=false) hF.2 x
   refine this.trans ?_
   rw [hk.next]
   by_cases e:x=S.pages.next
   ·rw [if_pos e,if_pos e]
   ·rw [if_neg e,if_neg e,hm.2.2,hk.next,if_neg e]
  refine .inl ⟨S0,a,k,hres,⟨?_,fun x q hq hkf=> ?_⟩,hpg⟩
  ·rw [hres];exact hF.1
  ·rw [hpg] at hq
   split at hq
   ·rw [<- Option.some.inj hq];show (1:Int)≠0;decide
   ·exact hi.anon _ _ hq hkf
 ·refine .inr ⟨S0,t,k,?_⟩
  unfold Cs.withT
  rw [k.eq]
  dsimp only
  rw [if_pos (by decide)]
theorem Inv.withT (h:Inv S) (hn:S.pages.next<16777216) {g:Int} (hl:S.live g=true) (text:List UInt8):Inv (S.withT g text).1:=by
 rcases acb h hn hl text with ⟨S0,a,k,he,hi,_⟩ | ⟨S0,t,k,he⟩
 ·exact hi
 ·rw [he];exact k.outs.inv h
theorem Inv.fresh (h:Inv S) (hn:S.pages.next<16777216) (g:Int):Inv (S.fresh g).1:=by
 unfold Cs.fresh
 split
 ·exact h
 ·next hl=>exact h.withT hn (by simpa using hl) _
theorem Inv.copy (h:Inv S) (hn:S.pages.next<16777216) (id g:Int):Inv (S.copy id g).1:=by
 unfold Cs.copy
 dsimp only
 split
 ·exact h
 ·next hl=>
  have hl:S.live g=true:=by
   cases hh:S.live g with
   | true=>rfl
   | false=>exact absurd (.inr (.inl hh)) hl
  exact h.withT hn hl _
structure al7 (S S0:Cs) (id:Int) (p:Pg) (o:Int) (a:Nat) (r:Cs×Int×Int):Prop where
 took:Took S S0 o a (S.take o)
 page:S0.pages.pg id=some p
 ans:r.2=(-1,0)
 pg:∀ x,r.1.pages.pg x=if x=id then some {p with owner:=o,place:=1,at_:=a} else S0.pages.pg x
 next:r.1.pages.next=S.pages.next
 tree:r.1.tree=S.tree
 files:r.1.files=S0.files
 by_:r.1.fr.by_=(By.wr S0.fr.pool.length S0.fr.by_ a (S0.text p)).1
 pool:r.1.fr.pool=S0.fr.pool.set a true
 used:r.1.fr.used=cAdd S0.fr.used (aac S.tree o) 1
 sl:r.1.sl=if p.place=2 then S0.sl.give p.at_ (aac S.tree o) else S0.sl
 guards:r.1.guards=S.guards
theorem acs (h:Inv0 S) (hanon:∀ x p,S.pages.pg x=some p ->p.kf<0 ->p.place≠0) {id g:Int} {p:Pg} (hp:S.pages.pg id=some p) (hl:S.live g=true) (hok:¬ (p.place=0/\p.kf<0)) (h1:p.place≠1):
  (∃ S0 a,al7 S S0 id p (if p.place=0 then g else p.owner) a (S.bring id g)/\Inv (S.bring id g).1)\/∃ S0 t,aho S S0 (if p.place=0 then g else p.owner) t (S.take (if p.place=0 then g else p.owner))/\S.bring id g=(S0,t,12):=by
 have hI:Inv S:=⟨h,hanon⟩
 have hlo:S.live (if p.place=0 then g else p.owner)=true:=by
  split
  ·exact hl
  ·exact h.own _ _ hp
 have hb:S.bring id g=(let o:=if p.place=0 then g else p.owner
  let t:=S.take o
  if t.2.2.2≠0 then (t.1,t.2.2.1,t.2.2.2) else
  let text:=t.1.text p
  let S2:=if p.place=2 then {t.1 with sl:=t.1.sl.give p.at_ (t.1.chain o)} else t.1
  let near:=came S2.log ((S2.kept id).getD 0) (S2.memory o)
  (S2.place id t.2.1 o text (!near), -1,0)):=by
  unfold Cs.bring
  rw [h.page hp]
  dsimp only
  rw [if_neg (by rintro (hh | hh | hh);exact hh rfl;rw [hl] at hh;cases hh;exact hok hh),if_neg h1]
 dsimp only at hb
 rcases Cs.take_spec hI hlo with ⟨S0,a,k⟩ | ⟨S0,t,k⟩
 ·left
  have hk:=k.outs.kept hI
  have hi:=k.outs.inv hI
  obtain ⟨q,hq,_,_,_,_,e5⟩:=hk.page id p hp
  have e5:=e5 h1
  subst e5
  generalize ho:(if q.place=0 then g else q.owner)=o at*
  have hl0:S0.live o=true:=Inv0.live_take hI k.outs hlo
  have hlim:=k.lim
  rw [<- hk.tree] at hlim
  have htext:∀ (P:List Bool) (U:List Cnt),Cs.text {S0 with fr:= {S0.fr with pool:=P,used:=U}} q=S0.text q:=by
   intro P U
   unfold Cs.text
   rw [if_neg h1,if_neg h1]
  have hpr:=(h.tab.pl _ _ hp).1
  have h02:q.place=0\/(q.place=2/\q.owner=o):=by
   by_cases e:q.place=0
   ·exact .inl e
   ·rw [if_neg e] at ho;exact .inr ⟨by omega,ho⟩
  have hans:∃ old,S.bring id g=(Cs.place {S0 with fr:= {S0.fr with pool:=S0.fr.pool.set a true,used:=cAdd S0.fr.used (aac S0.tree o) 1},sl:=if q.place=2 then S0.sl.give q.at_ (aac S0.tree o) else S0.sl} id a o (S0.text q) old, -1,0):=by
   refine ⟨!came S0.log ((S0.kept id).getD 0) (cUse (cAdd S0.fr.used (aac S.tree o) 1) o),?_⟩
   rw [hb,k.eq]
   dsimp only
   rw [if_neg (by decide),htext,hk.tree]
   by_cases e:q.place=2
   ·simp only [if_pos e]
    rfl
   ·simp only [if_neg e]
    rfl
  obtain ⟨old,hans⟩:=hans
  have hF:=hi.toInv0.toFrame (id:=id) (g:=o) hq h02 hl0 k.free hlim (S0.text q) old
  have hpg:∀ x,(S.bring id g).1.pages.pg x=if x=id then some {q with owner:=o,place:=1,at_:=a} else S0.pages.pg x:=by
   intro x
   rw [hans]
   exact aBZ (T:=S0.pages) (S:= {S0 with fr:= {S0.fr with pool:=S0.fr.pool.set a true,used:=cAdd S0.fr.used (aac S0.tree o) 1},sl:=if q.place=2 then S0.sl.give q.at_ (aac S0.tree o) else S0.sl}) (text:=S0.text q) (old:=old) hF.2 x
  refine ⟨S0,a,⟨k,hq,by rw [hans],hpg,?_,?_,?_,?_,?_,?_,?_,?_⟩,?_,fun x r hr hkf=> ?_⟩
  ·rw [hans]
   show (((S0.pages.own id o).1.put id 1 a).1).next=_
   rw [hF.2];exact hk.next
  ·rw [hans];exact hk.tree
  ·rw [hans];rfl
  ·rw [hans]
   show (By.wr (S0.fr.pool.set a true).length S0.fr.by_ a (S0.text q)).1=_
   rw [List.length_set]
  ·rw [hans];rfl
  ·rw [hans,<- hk.tree];rfl
  ·rw [hans,<- hk.tree];rfl
  ·rw [hans];exact hk.guards
  ·rw [hans];exact hF.1
  ·rw [hpg] at hr
   split at hr
   ·rw [<- Option.some.inj hr];show (1:Int)≠0;decide
   ·exact hi.anon _ _ hr hkf
 ·right
  refine ⟨S0,t,k,?_⟩
  rw [hb,k.eq]
  dsimp only
  rw [if_pos (by decide)]
theorem abS (h:Inv0 S) {id g:Int} (hb:S.pages.pg id=none\/S.live g=false\/∃ p,S.pages.pg id=some p/\p.place=0/\p.kf<0):S.bring id g=(S, -1,2):=by
 unfold Cs.bring
 dsimp only
 rw [if_pos]
 rcases hb with hh | hh | ⟨p,hp,hh⟩
 ·left;unfold TS.get;rw [hh];decide
 ·exact .inr (.inl hh)
 ·right;right;rw [h.page hp];exact hh
theorem acA (h:Inv0 S) {id g:Int} {p:Pg} (hp:S.pages.pg id=some p) (h1:p.place=1) (hl:S.live g=true):S.bring id g=({S with gens:=(abZ S.gens id).1}, -1,0):=by
 unfold Cs.bring
 rw [h.page hp]
 dsimp only
 rw [if_neg (by rintro (hh | hh | hh);exact hh rfl;rw [hl] at hh;cases hh;rw [h1] at hh;cases hh.1),if_pos h1]
theorem Inv.bring (h:Inv S) (id g:Int):Inv (S.bring id g).1:=by
 cases hp:S.pages.pg id with
 | none=>rw [abS h.toInv0 (.inl hp)];exact h
 | some p=>
  cases hl:S.live g with
  | false=>rw [abS h.toInv0 (.inr (.inl hl))];exact h
  | true=>
   by_cases h0:p.place=0/\p.kf<0
   ·rw [abS h.toInv0 (.inr (.inr ⟨p,hp,h0⟩))];exact h
   ·by_cases h1:p.place=1
    ·rw [acA h.toInv0 hp h1 hl];exact h.touch id
    ·rcases acs h.toInv0 h.anon hp hl h0 h1 with ⟨S0,a,k,hi⟩ | ⟨S0,t,k,he⟩
     ·exact hi
     ·rw [he];exact k.outs.inv h
theorem asT {T:TS} {id:Int} {p:Pg} (hp:T.pg id=some p) (hr:p.refs<=0) (h0:p.place=0):T.drop id=({T with pg:=upd T.pg id none,files:=upd T.files (p.kf,p.ki) none},0):=by
 unfold TS.drop
 rw [hp]
 dsimp only
 rw [if_neg (by omega)]
theorem abV {κ α:Type} [DecidableEq κ] {f:κ ->Option α} {k x:κ} {y:α} (h:upd f k none x=some y):x≠k/\f x=some y:=by
 unfold upd at h
 split at h
 ·cases h
 ·next e=>exact ⟨e,h⟩
theorem Inv0.dropP (h:Inv0 S) {id:Int} {p:Pg} (hp:S.pages.pg id=some p) (h0:p.place=0):Inv0 {S with pages:= {S.pages with pg:=upd S.pages.pg id none,files:=upd S.pages.files (p.kf,p.ki) none}} :=by
 have hs:∀ pl:Int,pl≠0 ->∀ x,(upd S.pages.pg id none x=S.pages.pg x)\/((∀ p,S.pages.pg x=some p ->p.place≠pl)/\∀ p,upd S.pages.pg id none x=some p ->p.place≠pl)\/(∃ p q',S.pages.pg x=some p/\upd S.pages.pg id none x=some q'/\q'.place=p.place/\q'.at_=p.at_/\q'.owner=p.owner):=by
  intro pl hpl x
  by_cases hx:x=id
  ·subst hx
   refine .inr (.inl ⟨fun q hq=> ?_,fun q hq=> ?_⟩)
   ·rw [hp] at hq;rw [<- Option.some.inj hq,h0];exact hpl.symm
   ·rw [ac8] at hq;cases hq
  ·exact .inl (upd_ne _ _ hx)
 refine {h with tab:=⟨h.tab.next,fun x q hq=>h.tab.ids _ _ (abV hq).2,fun pl a x=> ?_,fun kf ki x=> ?_,fun x q hq=>h.tab.pl _ _ (abV hq).2⟩,own:=fun x q hq=>h.own _ _ (abV hq).2,fr:=h.fr.other rfl (hs 1 (by decide)),sl:=h.sl.other rfl (hs 2 (by decide)),gen:=fun x g=> ?_,fil:=fun x q hq=>h.fil _ _ (abV hq).2}
 ·show S.pages.spots (pl,a)=some x↔∃ q,upd S.pages.pg id none x=some q/\_
  rw [h.tab.spot]
  constructor
  ·rintro ⟨q,hq,e1,e2,e3⟩
   have hx:x≠id:=by
    rintro rfl
    rw [hp] at hq
    rw [<- Option.some.inj hq,h0] at e1
    exact e3 e1.symm
   exact ⟨q,by rw [upd_ne _ _ hx];exact hq,e1,e2,e3⟩
  ·rintro ⟨q,hq,e⟩;exact ⟨q,(abV hq).2,e⟩
 ·show upd S.pages.files (p.kf,p.ki) none (kf,ki)=some x↔∃ q,upd S.pages.pg id none x=some q/\_
  constructor
  ·intro hx
   obtain ⟨hne,hx⟩:=abV hx
   obtain ⟨q,hq,e1,e2,e3⟩:=(h.tab.file kf ki x).1 hx
   have hxi:x≠id:=by
    rintro rfl
    rw [hp] at hq
    have:=Option.some.inj hq
    subst this
    exact hne (by rw [e1,e2])
   exact ⟨q,by rw [upd_ne _ _ hxi];exact hq,e1,e2,e3⟩
  ·rintro ⟨q,hq,e1,e2,e3⟩
   obtain ⟨hxi,hq⟩:=abV hq
   have hx:=(h.tab.file kf ki x).2 ⟨q,hq,e1,e2,e3⟩
   have hne:(kf,ki)≠(p.kf,p.ki):=by
    intro e
    have e:kf=p.kf/\ki=p.ki:=by simpa using e
    have:=(h.tab.file kf ki id).2 ⟨p,hp,e.1.symm,e.2.symm,e3⟩
    rw [hx] at this
    exact hxi (Option.some.inj this)
   rw [upd_ne _ _ hne];exact hx
 ·show _↔∃ q,upd S.pages.pg id none x=some q/\_
  rw [h.gen]
  constructor
  ·rintro ⟨q,hq,e1,e2⟩
   have hx:x≠id:=by
    rintro rfl
    rw [hp] at hq
    rw [<- Option.some.inj hq,h0] at e1
    cases e1
   exact ⟨q,by rw [upd_ne _ _ hx];exact hq,e1,e2⟩
  ·rintro ⟨q,hq,e⟩;exact ⟨q,(abV hq).2,e⟩
theorem aeK {F:FS} {k:Int×Int} (h:fHas F k=true):0<=k.1:=by
 unfold fHas at h
 rw [Bool.and_eq_true,decide_eq_true_eq,decide_eq_true_eq] at h
 unfold aAy at h
 split at h
 ·omega
 ·omega
theorem Inv.openF (h:Inv S) (hn:S.pages.next<16777216) (k:Int×Int) (g:Int):Inv (S.openF k g).1:=by
 unfold Cs.openF
 dsimp only
 split
 ·exact h
 ·next hh=>
  have hl:S.live g=true:=by
   cases hh':S.live g with
   | true=>rfl
   | false=>exact absurd (.inr hh') hh
  have hf:fHas S.files k=true:=by
   cases hh':fHas S.files k with
   | true=>rfl
   | false=>exact absurd (.inl hh') hh
  by_cases hm:S.pages.of k<0
  ·rw [decide_eq_true hm]
   simp only [if_true]
   obtain ⟨kf,ki⟩:=k
   have hkf:=aeK hf
   have hmk:=adQ S.pages (kf:=kf) (ki:=ki) (o:=g) ⟨h.tab.next,hn⟩ (.inr hm)
   rw [show (S.pages.make kf ki g).2.1=S.pages.next by rw [hmk.1]]
   have hI:=h.toInv0.make hn (kf:=kf) (ki:=ki) hl (.inr ⟨hm,hf⟩)
   have hkey:aaR S.pages kf ki=(kf,ki):=by unfold aaR;rw [if_neg (by have:0<=kf:=hkf;omega)]
   have hp:(S.pages.make kf ki g).1.pg S.pages.next=some ⟨kf,ki,0,0,g,0,0,false,false⟩:=by rw [hmk.2.2,if_pos rfl,hkey]
   have hanon:∀ x p,(S.pages.make kf ki g).1.pg x=some p ->p.kf<0 ->p.place≠0:=by
    intro x q hq hq0
    rw [hmk.2.2] at hq
    split at hq
    ·rw [<- Option.some.inj hq,hkey] at hq0
     have:kf<0:=hq0
     have:0<=kf:=hkf
     omega
    ·exact h.anon _ _ hq hq0
   rcases acs hI hanon (id:=S.pages.next) (g:=g) hp hl (fun e=>by have h1:kf<0:=e.2;have:0<=kf:=hkf;omega) (by show (0:Int)≠1;decide) with ⟨S0,a,b,hi⟩ | ⟨S0,t,b,he⟩
   ·rw [b.ans]
    dsimp only
    rw [if_pos rfl];exact hi
   ·rw [he]
    dsimp only
    rw [if_neg (by decide)]
    have hJ:Inv {S with pages:=(S.pages.make kf ki g).1} :=⟨hI,hanon⟩
    have hi:=b.outs.inv hJ
    obtain ⟨q,hq,_,_,_,_,e5⟩:=(b.outs.kept hJ).page S.pages.next _ hp
    have e5:=e5 (by show (0:Int)≠1;decide)
    subst e5
    rw [asT hq (Int.le_refl _) rfl]
    exact ⟨hi.toInv0.dropP hq rfl,fun x r hr=>hi.anon _ _ (abV hr).2⟩
  ·rw [decide_eq_false hm]
   simp only [Bool.false_eq_true,if_false]
   have:=h.bring (S.pages.of k) g
   split<;>exact this
theorem Inv.get (h:Inv S) (id a:Int):Inv (S.get id a).1:=by
 unfold Cs.get
 dsimp only
 split
 ·exact h
 ·dsimp only
  split
  ·exact h.touch id
  ·exact h
theorem Inv.put (h:Inv S) (id a:Int) (b:UInt8):Inv (S.put id a b).1:=by
 unfold Cs.put
 dsimp only
 split
 ·exact h
 ·split
  ·have h1:Inv {S with fr:= {S.fr with by_:=(By.pt S.fr.pool.length S.fr.by_ (S.here id).1 a b).1}} :=
    ⟨{h.toInv0 with fr:= {h.fr with len:=By.aFI h.fr.len _ _}},h.anon⟩
   exact ((h1.touch id).mark id true)
  ·exact h
theorem avN {T:TS} {id n:Int} {p:Pg} (hp:T.pg id=some p):T.refer id n=if n< -1000\/1000<n\/IntKind.i64.wrap (p.refs+n)<0 then (T,0,1) else (T.setPg id {p with refs:=IntKind.i64.wrap (p.refs+n)},IntKind.i64.wrap (p.refs+n),0):=by
 unfold TS.refer;rw [hp]
theorem ab1 (h:Inv S) (id n:Int):(S.pages.pg id=none/\S.refer id n=(S,2))\/∃ p,S.pages.pg id=some p/\
    (((n< -1000\/1000<n\/IntKind.i64.wrap (p.refs+n)<0)/\S.refer id n=(S,1))\/
     (0<IntKind.i64.wrap (p.refs+n)/\(-1000<=n/\n<=1000)/\S.refer id n=({S with pages:=S.pages.setPg id {p with refs:=IntKind.i64.wrap (p.refs+n)}},0))\/
     (IntKind.i64.wrap (p.refs+n)=0/\(-1000<=n/\n<=1000)/\(S.refer id n).2=0/\Inv (S.refer id n).1/\(S.refer id n).1.pages.next=S.pages.next/\(∀ x,(S.refer id n).1.pages.pg x=if x=id then none else S.pages.pg x)/\(S.refer id n).1.tree=S.tree/\(S.refer id n).1.guards=S.guards/\
       (S.refer id n).1.fr=(if p.place=1 then S.fr.give p.at_ (aac S.tree p.owner) else S.fr)/\(S.refer id n).1.sl=(if p.place=2 then S.sl.give p.at_ (aac S.tree p.owner) else S.sl)/\
       (S.refer id n).1.files.sizes=S.files.sizes/\(p.kf<0 ->(S.refer id n).1.files=S.files))):=by
  cases hp:S.pages.pg id with
  | none=>
    refine .inl ⟨rfl,?_⟩
    unfold Cs.refer TS.refer
    rw [hp]
    rfl
  | some p=>
    refine .inr ⟨p,rfl,?_⟩
    by_cases hb:n< -1000\/1000<n\/IntKind.i64.wrap (p.refs+n)<0
    · refine .inl ⟨hb,?_⟩
      unfold Cs.refer
      rw [avN hp,if_pos hb]
      rfl
    · by_cases h0:0<IntKind.i64.wrap (p.refs+n)
      · refine .inr (.inl ⟨h0,by omega,?_⟩)
        unfold Cs.refer
        rw [avN hp,if_neg hb]
        dsimp only
        rw [if_pos (.inr h0)]
      · refine .inr (.inr ⟨by omega,by omega,?_⟩)
        have hw0:IntKind.i64.wrap (p.refs+n)=0:=by omega
        have h1:Inv {S with pages:=S.pages.setPg id {p with refs:=0}} :=h.setPg hp rfl rfl rfl rfl (Int.le_refl _) rfl
        have hp1:(S.pages.setPg id {p with refs:=0}).pg id=some {p with refs:=0} :=ac8 _ _ _
        have hpg1:∀ x,x≠id ->(S.pages.setPg id {p with refs:=0}).pg x=S.pages.pg x:=fun x hx=>upd_ne _ _ hx
        have hpr:=(h.tab.pl _ _ hp).1
        have hr:S.refer id n=(let S1:Cs:= {S with pages:=S.pages.setPg id {p with refs:=0}}
          let ch:=S1.chain p.owner
          let S2:=if p.place=1 then
              let S3:=S1.clean id {p with refs:=0}
              {S3 with fr:=S3.fr.give p.at_ ch,gens:=(adX S3.gens id).1}
            else if p.place=2 then {S1 with sl:=S1.sl.give p.at_ ch} else S1
          let d:=(S2.pages.put id 0 0).1.drop id
          ({S2 with pages:=d.1},d.2)):=by
          unfold Cs.refer
          rw [avN hp,if_neg hb,hw0]
          dsimp only
          rw [if_neg (by omega)]
          have:=h1.page hp1
          dsimp only at this
          rw [this]
        generalize hS1:({S with pages:=S.pages.setPg id {p with refs:=0}} :Cs)=S1 at*
        have e1:S1.tree=S.tree:=by subst hS1;rfl
        have e2:S1.fr=S.fr:=by subst hS1;rfl
        have e3:S1.sl=S.sl:=by subst hS1;rfl
        have e4:S1.guards=S.guards:=by subst hS1;rfl
        have e5:S1.files=S.files:=by subst hS1;rfl
        have e6:S1.pages=S.pages.setPg id {p with refs:=0} :=by subst hS1;rfl
        rw [<- e6] at hp1 hpg1
        have e7:S1.pages.next=S.pages.next:=by rw [e6];rfl
        clear hS1
        rw [hr]
        dsimp only
        by_cases hf:p.place=1
        · rw [if_pos hf,if_pos hf,if_neg (by rw [hf];decide)]
          obtain ⟨q,hq,q1,q2,q3,q4,q5,q6⟩:=agu (S:=S1) id {p with refs:=0} _ hp1
          have hcl:=h1.clean id {p with refs:=0}
          obtain ⟨c1,c2,c3,c4,c5,c6,c7⟩:=adW (S:=S1) id {p with refs:=0}
          have hck:=aww (S:=S1) hp1 hf {p with refs:=0}
          have hck2:p.kf<0 ->(S1.clean id {p with refs:=0}).files=S1.files:=by
            intro hk;unfold Cs.clean;rw [if_neg (fun hh=>by have:0<=p.kf:=hh.1;omega)]
          have hoth2:∀ x,x≠id ->(S1.clean id {p with refs:=0}).pages.pg x=S1.pages.pg x:=by
            intro x hx
            unfold Cs.clean
            split
            · show (S1.pages.mark id false).1.pg x=_
              rw [(abv _ _ _).2.2.2]
              cases S1.pages.pg x<;>simp [hx]
            · rfl
          generalize S1.clean id {p with refs:=0} =S3 at*
          have hU:=hcl.toInv0.unframe hq (by rw [q1];exact hf) (lg:=S3.log) hcl.log (K:=S3.kept)
          have hput:=hcl.toInv0.put0 hq
          dsimp only
          rw [hput]
          have hq2:(S3.pages.putT id q 0 0).pg id=some (q.to 0 0):=by rw [abB,if_pos rfl]
          rw [asT hq2 (by show q.refs<=0;rw [q6];exact Int.le_refl _) rfl]
          have hD:=hU.dropP hq2 rfl
          have hgive:S3.fr.give q.at_ (aac S3.tree q.owner)=S.fr.give p.at_ (aac S.tree p.owner):=by rw [c2,e2,c1,e1,q2,q5]
          have hgive2:S3.fr.give p.at_ (S1.chain p.owner)=S.fr.give p.at_ (aac S.tree p.owner):=by rw [c2,e2];unfold Cs.chain;rw [e1]
          rw [hgive] at hD
          rw [hgive2]
          refine ⟨rfl,⟨hD,fun x r hr hk=> ?_⟩,?_,fun x=> ?_,?_,?_,rfl,?_,?_,fun hk=> ?_⟩
          · obtain ⟨hx,hr⟩:=abV hr
            rw [abB,if_neg hx] at hr
            exact hcl.anon _ _ hr hk
          · show S3.pages.next=_
            rw [hck.next,e7]
          · show upd (S3.pages.putT id q 0 0).pg id none x=_
            by_cases hx:x=id
            · subst hx;rw [ac8,if_pos rfl]
            · rw [upd_ne _ _ hx,if_neg hx,abB,if_neg hx,hoth2 x hx,hpg1 x hx]
          · show S3.tree=_;rw [c1,e1]
          · show S3.guards=_;rw [c7,e4]
          · show S3.sl=_;rw [c3,e3]
          · show S3.files.sizes=_;rw [hck.sizes,e5]
          · show S3.files=_;rw [hck2 hk,e5]
        · rw [if_neg hf,if_neg hf]
          by_cases hs:p.place=2
          · rw [if_pos hs,if_pos hs]
            have hU:=h1.toInv0.unslot hp1 hs
            dsimp only
            rw [h1.toInv0.put0 hp1]
            have hq2:(S1.pages.putT id {p with refs:=0} 0 0).pg id=some (Pg.to {p with refs:=0} 0 0):=by rw [abB,if_pos rfl]
            rw [asT hq2 (Int.le_refl _) rfl]
            have hD:=hU.dropP hq2 rfl
            refine ⟨rfl,⟨hD,fun x r hr hk=> ?_⟩,e7,fun x=> ?_,e1,e4,e2,?_,by rw [e5],fun _=>e5⟩
            · obtain ⟨hx,hr⟩:=abV hr
              rw [abB,if_neg hx] at hr
              exact h1.anon _ _ hr hk
            · show upd (S1.pages.putT id _ 0 0).pg id none x=_
              by_cases hx:x=id
              · subst hx;rw [ac8,if_pos rfl]
              · rw [upd_ne _ _ hx,if_neg hx,abB,if_neg hx,hpg1 x hx]
            · show S1.sl.give p.at_ (S1.chain p.owner)=_
              rw [e3];unfold Cs.chain;rw [e1]
          · rw [if_neg hs,if_neg hs]
            have h0p:p.place=0:=by omega
            rw [h1.toInv0.put0 hp1]
            have hq2:(S1.pages.putT id {p with refs:=0} 0 0).pg id=some (Pg.to {p with refs:=0} 0 0):=by rw [abB,if_pos rfl]
            rw [asT hq2 (Int.le_refl _) rfl]
            have hsame:S1.pages.putT id {p with refs:=0} 0 0=S1.pages:=by
              have hat:p.at_=0:=hpr.2.2.2 h0p
              have hto:Pg.to {p with refs:=0} 0 0= {p with refs:=0} :=by
                show ({p with refs:=0,place:=0,at_:=0} :Pg)= {p with refs:=0}
                cases p;simp only at h0p hat;subst h0p hat;rfl
              have hspn:S1.pages.spots (p.place,p.at_)=none:=by
                rw [h0p,hat]
                cases hsp:S1.pages.spots (0,0) with
                | none=>rfl
                | some y=>
                  obtain ⟨_,_,_,_,e⟩:=(h1.tab.spot 0 0 y).1 hsp
                  exact absurd rfl e
              unfold TS.putT
              rw [hto,if_neg (by decide)]
              have a1:upd S1.pages.pg id (some {p with refs:=0})=S1.pages.pg:=by
                funext x;unfold upd;split
                · next e=>rw [e,hp1]
                · rfl
              have a2:upd S1.pages.spots (({p with refs:=0} :Pg).place,({p with refs:=0} :Pg).at_) none=S1.pages.spots:=by
                funext x;unfold upd;split
                · next e=>rw [e];exact hspn.symm
                · rfl
              rw [a1,a2]
            rw [hsame] at hq2 ⊢
            have hD:=h1.toInv0.dropP hp1 h0p
            refine ⟨rfl,⟨hD,fun x r hr hk=>h1.anon _ _ (abV hr).2 hk⟩,e7,fun x=> ?_,e1,e4,e2,e3,by rw [e5],fun _=>e5⟩
            show upd S1.pages.pg id none x=_
            by_cases hx:x=id
            · subst hx;rw [ac8,if_pos rfl]
            · rw [upd_ne _ _ hx,if_neg hx,hpg1 x hx]
theorem Inv.refer (h:Inv S) (id n:Int):Inv (S.refer id n).1:=by
 rcases ab1 h id n with ⟨_,he⟩ | ⟨p,hp,⟨_,he⟩ | ⟨h0,_,he⟩ | ⟨_,_,_,hi,_⟩⟩
 ·rw [he];exact h
 ·rw [he];exact h
 ·rw [he];exact h.setPg hp rfl rfl rfl rfl (by show 0<=IntKind.i64.wrap (p.refs+n);omega) rfl
 ·exact hi
end Go.Kc
end
section
namespace Go.Kt
theorem awv {l l':List G} :∀ (g:Nat),(∀ i,i<=g ->((l'[i]?).map G.up)=((l[i]?).map G.up)) ->chain l' g=chain l g:=by
 intro g
 induction g using Nat.strongRecOn with
 | _ g ih=>
  intro h
  rw [chain.eq_def l' g,chain.eq_def l g,h g (Nat.le_refl _)]
  split
  ·next hh=>rw [ih _ (by omega) (fun i hi=>h i (by omega))]
  ·rfl
theorem ayU {l:List G} {n:Nat} :aaf l n=((l[n]?).map G.live).getD false:=by
 unfold aaf
 rw [decide_eq_true (by omega),Int.toNat_natCast]
 cases l[n]? <;>rfl
theorem ayV {l:List G} {g:Int} (h:g<0):aaf l g=false:=by
 unfold aaf;rw [decide_eq_false (by omega)];rfl
theorem ayT {l:List G} {x:G} {g:Int} (h:aaf l g=true):aaf (l++ [x]) g=true:=by
 obtain ⟨n,rfl,y,hy,hl⟩:=aa7.1 h
 have hlt:=(List.getElem?_eq_some_iff.1 hy).1
 exact aa7.2 ⟨n,rfl,y,by rw [List.getElem?_append_left hlt];exact hy,hl⟩
theorem aEe {l:List G} {x:G} {g:Int} (h:aaf l g=true):aac (l++ [x]) g=aac l g:=by
 unfold aac
 rw [if_pos h,if_pos (ayT h)]
 obtain ⟨n,rfl,y,hy,hl⟩:=aa7.1 h
 have hlt:=(List.getElem?_eq_some_iff.1 hy).1
 rw [Int.toNat_natCast,awv (l:=l) (l':=l++ [x]) n (fun i hi=>by rw [List.getElem?_append_left (by omega)])]
theorem aHh {l:List G} {p:Int} (h:(addI l p).2.2=0):aaf l p=true/\l.length<64/\addI l p=(l++ [⟨p,true⟩],(l.length:Int),0):=by
 unfold addI at h ⊢
 split at h
 ·cases h
 next h1=>
 rw [if_neg h1]
 split at h
 ·cases h
 next h2=>
 rw [if_neg h2]
 split at h
 ·cases h
 next h3=>
 rw [if_neg h3]
 exact ⟨by simpa using h1,by omega,rfl⟩
theorem axn {l:List G} {g:Int} (h:(aby l g).2=0):∃ n:Nat,g=n/\0<n/\∃ x,l[n]? =some x/\x.live=true/\acR l g= []/\aby l g=(l.set n ⟨x.up,false⟩,0):=by
 unfold aby at h ⊢
 split at h
 ·cases h
 next h1=>
 rw [if_neg h1]
 split at h
 ·cases h
 next h2=>
 rw [if_neg h2]
 split at h
 ·cases h
 next h3=>
 rw [if_neg h3]
 obtain ⟨n,rfl,x,hx,hl⟩:=aa7.1 (show aaf l g=true by simpa using h2)
 refine ⟨n,rfl,by omega,x,hx,hl,by simpa using h3,?_⟩
 rw [Int.toNat_natCast,hx];rfl
variable {l:List G} {n:Nat} {x:G}
theorem ayW (hx:l[n]? =some x) (g:Int):aaf (l.set n ⟨x.up,false⟩) g=(aaf l g&& !(g==(n:Int))):=by
 have hlt:=(List.getElem?_eq_some_iff.1 hx).1
 rcases Int.lt_or_le g 0 with h | h
 ·rw [ayV h,ayV h];rfl
 ·obtain ⟨m,rfl⟩:∃ m:Nat,g=m:=⟨g.toNat,by omega⟩
  rw [ayU,ayU]
  by_cases e:n=m
  ·subst e
   rw [List.getElem?_set_self hlt,hx];simp
  ·rw [List.getElem?_set_ne e]
   have:((m:Int)==(n:Int))=false:=by simp;omega
   rw [this];simp
theorem aFj (hx:l[n]? =some x) (g:Nat):chain (l.set n ⟨x.up,false⟩) g=chain l g:=by
 have hlt:=(List.getElem?_eq_some_iff.1 hx).1
 refine awv g (fun i _=> ?_)
 by_cases e:n=i
 ·subst e;rw [List.getElem?_set_self hlt,hx];rfl
 ·rw [List.getElem?_set_ne e]
theorem awt (hx:l[n]? =some x) {g:Int} (hl:aaf l g=true) (hne:g≠n):aac (l.set n ⟨x.up,false⟩) g=aac l g:=by
 unfold aac
 rw [ayW hx,hl,if_pos rfl,if_pos (by simpa using hne),aFj hx]
theorem aro {g:Nat} (hl:aaf l g=true):aac l g=(chain l g).map Int.ofNat:=by unfold aac;rw [if_pos hl,Int.toNat_natCast]
theorem aGG (hw:WF l) (hk:acR l n= []) (hn:aaf l n=true):∀ (g:Nat),aaf l g=true ->g≠n ->n∉chain l g:=by
 intro g
 induction g using Nat.strongRecOn with
 | _ g ih=>
  intro hl hne hm
  obtain ⟨g',e,y,hy,hyl⟩:=aa7.1 hl
  have e:g'=g:=by omega
  subst e
  rcases Nat.eq_zero_or_pos g' with h0 | h0
  ·subst h0;rw [aje,List.mem_singleton] at hm;exact hne hm.symm
  ·have hu:=hw.up g' y hy h0
   rw [ahY hw hy h0] at hm
   rcases List.mem_cons.1 hm with e | hm
   ·exact hne e.symm
   ·by_cases e:y.up.toNat=n
    ·have hlt:=(List.getElem?_eq_some_iff.1 hy).1
     have:(g':Int)∈acR l n:=by
      unfold acR ahP
      rw [if_pos hn]
      refine List.mem_map.2 ⟨g',List.mem_filter.2 ⟨List.mem_range.2 hlt,?_⟩,rfl⟩
      rw [Bool.and_eq_true]
      refine ⟨hl,?_⟩
      show (((l[g']?).map G.up).getD (-1)==(n:Int))=true
      rw [hy]
      simp only [Option.map_some,Option.getD_some,beq_iff_eq]
      omega
     rw [hk] at this;cases this
    ·obtain ⟨z,hz⟩:∃ z,l[y.up.toNat]? =some z:=⟨_,List.getElem?_eq_getElem (by have:=(List.getElem?_eq_some_iff.1 hy).1;omega)⟩
     have hzl:=hw.live g' y z hy h0 hyl hz
     exact ih _ (by omega) (aa7.2 ⟨_,rfl,z,hz,hzl⟩) e hm
end Go.Kt
end
section
namespace Go.Kc
open Go Go.Kt Go.Sp
variable {S:Cs}
theorem aa8.tree {T:TS} {tree tree':List G} {s:Store} {pl:Int} (h:aa8 T tree s pl) (hs:∀ x p,T.pg x=some p ->aac tree' p.owner=aac tree p.owner):aa8 T tree' s pl:=by
 refine ⟨h.few,h.len,h.used,h.taken,fun g hg hg'=> ?_,h.all⟩
 rw [h.use g hg hg']
 congr 1
 refine (aiN rfl (fun x=> ?_)).symm
 cases hp:T.pg x with
 | none=>rfl
 | some p=>unfold pB below;dsimp only;rw [hs x p hp]
theorem Inv.addGroup (h:Inv S) (p:Int):Inv (S.addGroup p).1:=by
 unfold Cs.addGroup
 dsimp only
 split
 ·next h0=>
  obtain ⟨hl,hlt,he⟩:=aHh h0
  have hw:=aHi h.wf p
  rw [he] at hw ⊢
  dsimp only at hw ⊢
  have hc:∀ x q,S.pages.pg x=some q ->aac (S.tree++ [⟨p,true⟩]) q.owner=aac S.tree q.owner:=fun x q hq=>aEe (h.own _ _ hq)
  exact {h with wf:=hw,gl:=by show (S.guards++ [_]).length=(S.tree++ [_]).length;rw [List.length_append,List.length_append,h.gl];rfl,own:=fun x q hq=>ayT (h.own _ _ hq),fr:=h.fr.tree hc,sl:=h.sl.tree hc}
 ·exact h
theorem Inv.guards_ (h:Inv S) {l:List aaz} (hl:l.length=S.guards.length):Inv {S with guards:=l} := {h with gl:=by show l.length=_;rw [hl];exact h.gl}
theorem Inv.limit (h:Inv S) (g what n:Int):Inv (S.limit g what n).1:=by
 have hG:∀ x,Inv (S.setG g x):=fun x=>h.guards_ (by simp)
 have hS:∀ {T:TS} {tree:List G} {s:Store} {pl:Int},aa8 T tree s pl ->aa8 T tree {s with used:=(aaK s.used g n).1} pl:=by
  intro T tree s pl hs
  exact ⟨hs.few,hs.len,hs.used.setLimit g n,hs.taken,fun x hx hx'=>by rw [<- hs.use x hx hx'];exact aes hs.used.len g n x,hs.all⟩
 unfold Cs.limit
 split
 ·exact h
 split
 ·exact h
 split
 ·exact hG _
 split
 ·exact hG _
 split
 ·exact {h with fr:=hS h.fr}
 split
 ·exact {h with sl:=hS h.sl}
 split
 ·split
  ·exact h
  ·exact hG _
 ·exact h
theorem aFE (T:TS) (id o:Int):(T.own id o).1.next=T.next/\(T.own id o).1.files=T.files/\(T.own id o).1.spots=T.spots/\∀ x,(T.own id o).1.pg x=(T.pg x).map fun p=>if x=id then {p with owner:=o} else p:=by
 unfold TS.own
 cases hp:T.pg id with
 | none=>
  refine ⟨rfl,rfl,rfl,fun x=> ?_⟩
  by_cases e:x=id
  ·subst e;simp [hp]
  ·cases T.pg x<;>simp [e]
 | some p=>
  refine ⟨rfl,rfl,rfl,fun x=> ?_⟩
  show upd T.pg id (some _) x=_
  by_cases e:x=id
  ·subst e;rw [ac8,hp];simp
  ·rw [upd_ne _ _ e];cases T.pg x<;>simp [e]
theorem aiR (o:Int):∀ (ids:List Int) (T:TS),(T.ownAll ids o).next=T.next/\(T.ownAll ids o).files=T.files/\(T.ownAll ids o).spots=T.spots/\∀ x,(T.ownAll ids o).pg x=(T.pg x).map fun p=>if x∈ids then {p with owner:=o} else p
 | [],T=>⟨rfl,rfl,rfl,fun x=>by show T.pg x=_;cases T.pg x<;>simp⟩
 | id::ids,T=>by
  obtain ⟨a1,a2,a3,a4⟩:=aFE T id o
  obtain ⟨b1,b2,b3,b4⟩:=aiR o ids (T.own id o).1
  refine ⟨b1.trans a1,b2.trans a2,b3.trans a3,fun x=>(b4 x).trans ?_⟩
  rw [a4]
  cases T.pg x with
  | none=>rfl
  | some p=>
   simp only [Option.map_some,Option.some.injEq,List.mem_cons]
   by_cases e1:x=id
   ·by_cases e2:x∈ids<;>simp [e1]
   ·by_cases e2:x∈ids<;>simp [e1,e2]
theorem asD {T:TS} (hT:acp T) {g x:Int} :x∈T.those g↔∃ p,T.pg x=some p/\p.owner=g:=by
 unfold TS.those
 rw [List.mem_map]
 constructor
 ·rintro ⟨n,hn,rfl⟩
  rw [List.mem_filter] at hn
  obtain ⟨_,hn⟩:=hn
  show ∃ p,T.pg (n:Int)=some p/\_
  cases hp:T.pg (n:Int) with
  | none=>rw [hp] at hn;cases hn
  | some p=>rw [hp] at hn;exact ⟨p,rfl,by simpa using hn⟩
 ·rintro ⟨p,hp,ho⟩
  have:=hT.ids _ _ hp
  refine ⟨x.toNat,List.mem_filter.2 ⟨List.mem_range.2 (by omega),?_⟩,by show ((x.toNat:Nat):Int)=x;omega⟩
  have e:((x.toNat:Nat):Int)=x:=by omega
  rw [e,hp];simpa using ho
theorem agL {T:TS} (hT:acp T) (g o x:Int):(T.ownAll (T.those g) o).pg x=(T.pg x).map fun p=>if p.owner=g then {p with owner:=o} else p:=by
 rw [(aiR o _ T).2.2.2 x]
 cases hp:T.pg x with
 | none=>rfl
 | some p=>
  simp only [Option.map_some,Option.some.injEq]
  by_cases e:p.owner=g
  ·rw [if_pos e,if_pos ((asD hT).2 ⟨p,hp,e⟩)]
  ·rw [if_neg e,if_neg (fun hm=>by
    obtain ⟨q,hq,e2⟩:=(asD hT).1 hm
    rw [hp] at hq
    exact e (by rw [Option.some.inj hq];exact e2))]
theorem acp.moved {T:TS} (hT:acp T) (g o:Int):acp (T.ownAll (T.those g) o):=by
 have hpg:=agL hT g o
 obtain ⟨h1,h2,h3,_⟩:=aiR o (T.those g) T
 generalize T.ownAll (T.those g) o=T' at*
 have hf:∀ {x q},T'.pg x=some q ->∃ p,T.pg x=some p/\q.place=p.place/\q.at_=p.at_/\q.kf=p.kf/\q.ki=p.ki/\q.refs=p.refs:=by
  intro x q hq
  rw [hpg] at hq
  cases hp:T.pg x with
  | none=>rw [hp] at hq;cases hq
  | some p=>
   rw [hp] at hq
   have:=Option.some.inj hq
   subst this
   refine ⟨p,rfl,?_,?_,?_,?_,?_⟩<;>(dsimp only;split<;>rfl)
 have hb:∀ {x p},T.pg x=some p ->∃ q,T'.pg x=some q/\q.place=p.place/\q.at_=p.at_/\q.kf=p.kf/\q.ki=p.ki:=by
  intro x p hp
  rw [hpg,hp]
  refine ⟨_,rfl,?_,?_,?_,?_⟩<;>(dsimp only;split<;>rfl)
 refine ⟨by rw [h1];exact hT.next,fun x q hq=> ?_,fun pl a x=> ?_,fun kf ki x=> ?_,fun x q hq=> ?_⟩
 ·obtain ⟨p,hp,_⟩:=hf hq
  rw [h1];exact hT.ids _ _ hp
 ·rw [h3,hT.spot]
  constructor
  ·rintro ⟨p,hp,e1,e2,e3⟩
   obtain ⟨q,hq,f1,f2,_⟩:=hb hp
   exact ⟨q,hq,by rw [f1,e1],by rw [f2,e2],e3⟩
  ·rintro ⟨q,hq,e1,e2,e3⟩
   obtain ⟨p,hp,f1,f2,_⟩:=hf hq
   exact ⟨p,hp,by rw [<- f1,e1],by rw [<- f2,e2],e3⟩
 ·rw [h2,hT.file]
  constructor
  ·rintro ⟨p,hp,e1,e2,e3⟩
   obtain ⟨q,hq,_,_,f1,f2⟩:=hb hp
   exact ⟨q,hq,by rw [f1,e1],by rw [f2,e2],e3⟩
  ·rintro ⟨q,hq,e1,e2,e3⟩
   obtain ⟨p,hp,_,_,f1,f2,_⟩:=hf hq
   exact ⟨p,hp,by rw [<- f1,e1],by rw [<- f2,e2],e3⟩
 ·obtain ⟨p,hp,f1,f2,_,_,f5⟩:=hf hq
  have:=hT.pl _ _ hp
  rw [f1,f2,f5];exact this
theorem asF {C:List Cnt} (hC:aco C) {g:Int} (hg:0<=g/\g<64) (x:Int):cUse (aaC C [g] (cUse C g)).1 x=if x=g then 0 else cUse C x:=by
 have ho:=(hC.of g).1
 have hr:ab2 [g] (cUse C g)=true:=abJ.2 ⟨fun y hy=>by rw [List.mem_singleton] at hy;subst hy;exact hg,by simp,ho⟩
 rw [aeN hr (fun y hy=>by rw [List.mem_singleton] at hy;subst hy;exact Int.le_refl _)]
 show cUse (cAdd C [g] (-(cUse C g))) x=_
 rw [acm hC.len (fun y hy=>by rw [List.mem_singleton] at hy;subst hy;exact hg) (by simp)]
 by_cases e:x=g
 ·subst e;simp;omega
 ·simp [e]
theorem aa8.gone {T:TS} (hT:acp T) {tree:List G} (hw:WF tree) {s:Store} {pl:Int} (h:aa8 T tree s pl) (hown:∀ x p,T.pg x=some p ->aaf tree p.owner=true) {n:Nat} {x:G} (h0:0<n) (hx:tree[n]? =some x) (hl:x.live=true) (hk:acR tree n= []):
  aa8 (T.ownAll (T.those n) x.up) (tree.set n ⟨x.up,false⟩) {s with used:=(aaC s.used [(n:Int)] (cUse s.used n)).1} pl:=by
 have hlt:=(List.getElem?_eq_some_iff.1 hx).1
 have hfew:=hw.few
 have hn:aaf tree n=true:=aa7.2 ⟨n,rfl,x,hx,hl⟩
 have hu:=hw.up n x hx h0
 obtain ⟨z,hz⟩:∃ z,tree[x.up.toNat]? =some z:=⟨_,List.getElem?_eq_getElem (by omega)⟩
 have hzl:=hw.live n x z hx h0 hl hz
 have eu:((x.up.toNat:Nat):Int)=x.up:=by omega
 have hul:aaf tree x.up=true:=by rw [<- eu];exact aa7.2 ⟨_,rfl,z,hz,hzl⟩
 have hune:x.up≠(n:Int):=by omega
 have hpg:=agL hT n x.up
 have hnx:=(aiR x.up (T.those n) T).1
 generalize T.ownAll (T.those n) x.up=T' at*
 have hcn:aac tree n=(n:Int)::aac tree x.up:=by
  rw [aro hn,ahY hw hx h0]
  rw [show aac tree x.up=aac tree ((x.up.toNat:Nat):Int) by rw [eu],aro (by rw [eu];exact hul)]
  rfl
 have hnu:(n:Int)∉aac tree x.up:=by
  have:=(aan hw hn).2.1
  rw [hcn,List.nodup_cons] at this
  exact this.1
 have key:∀ (y:Int) (g:Int),pB (T'.pg y) pl (below (tree.set n ⟨x.up,false⟩) g)=(pB (T.pg y) pl (below tree g)&& !(g==(n:Int))):=by
  intro y g
  rw [hpg]
  cases hp:T.pg y with
  | none=>rfl
  | some p=>
   simp only [Option.map_some]
   unfold pB below
   dsimp only
   by_cases e:p.owner=(n:Int)
   ·rw [if_pos e]
    dsimp only
    rw [awt hx hul hune,e,hcn]
    by_cases hg:g=(n:Int)
    ·subst hg
     have:(aac tree x.up).contains (n:Int)=false:=by simpa using hnu
     rw [this];simp
    ·have:(g==(n:Int))=false:=by simpa using hg
     rw [List.contains_cons,this];simp
   ·rw [if_neg e,awt hx (hown _ _ hp) e]
    by_cases hg:g=(n:Int)
    ·subst hg
     have:(aac tree p.owner).contains (n:Int)=false:=by
      have hlo:=hown _ _ hp
      obtain ⟨m,hm,_⟩:=aa7.1 hlo
      rw [hm] at hlo ⊢
      have:=aGG hw hk hn m hlo (fun e2=>e (by rw [hm,e2]))
      rw [aro hlo]
      simp only [List.contains_eq_mem,decide_eq_false_iff_not,List.mem_map,not_exists,not_and]
      intro y hy e2
      have e2:(y:Int)=(n:Int):=e2
      rw [show y=n by omega] at hy
      exact this hy
     rw [this];simp
    ·have:(g==(n:Int))=false:=by simpa using hg
     rw [this];simp
 have keyT:∀ (y:Int),pB (T'.pg y) pl (fun _=>true)=pB (T.pg y) pl (fun _=>true):=by
  intro y
  rw [hpg]
  cases hp:T.pg y with
  | none=>rfl
  | some p=>simp only [Option.map_some];unfold pB;dsimp only;split<;>rfl
 refine ⟨h.few,h.len,h.used.give _ _,fun a=> ?_,fun g hg hg'=> ?_,by rw [h.all];exact (aiN hnx keyT).symm⟩
 ·rw [h.taken a]
  constructor
  ·rintro ⟨y,p,hp,e1,e2⟩
   refine ⟨y,(if p.owner=(n:Int) then {p with owner:=x.up} else p),by rw [hpg,hp];rfl,?_,?_⟩
   ·split
    ·exact e1
    ·exact e1
   ·split
    ·exact e2
    ·exact e2
  ·rintro ⟨y,q,hq,e1,e2⟩
   rw [hpg] at hq
   cases hp:T.pg y with
   | none=>rw [hp] at hq;cases hq
   | some p=>
    rw [hp] at hq
    have:=Option.some.inj hq
    subst this
    refine ⟨y,p,hp,?_,?_⟩
    ·rw [<- e1];dsimp only;split<;>rfl
    ·rw [<- e2];dsimp only;split<;>rfl
 ·show cUse (aaC s.used [(n:Int)] (cUse s.used n)).1 g=_
  rw [asF h.used ⟨by omega,by omega⟩]
  by_cases e:g=(n:Int)
  ·rw [if_pos e]
   have:cnt T' pl (below (tree.set n ⟨x.up,false⟩) g)=0:=by
    unfold cnt
    refine azl.2 (fun i hi=> ?_)
    have:=key (i:Int) g
    rw [e] at this ⊢
    simp only [beq_self_eq_true,Bool.not_true,Bool.and_false] at this
    exact this
   rw [this];rfl
  ·rw [if_neg e,h.use g hg hg']
   have hgn:(g==(n:Int))=false:=by simpa using e
   congr 1
   refine (aiN hnx (fun y=> ?_)).symm
   rw [key,hgn];simp
theorem aFw {R:List Ent} {f t:Int} (ht:0<=t/\t<=16777216) {x o:Int} :(∃ e∈(ah2 R f t).1,e.id=x/\e.group=o)↔∃ e∈R,e.id=x/\(if e.group=f then t else e.group)=o:=by
 unfold ah2
 rw [if_neg (by omega)]
 have hg:∀ e:Ent,(chg f (fun _ a=>(t,a)) e).group=if e.group=f then t else e.group:=fun e=>by unfold chg;split<;>rfl
 constructor
 ·rintro ⟨e,he,rfl,rfl⟩
  obtain ⟨y,hy,rfl⟩:=List.mem_map.1 he
  exact ⟨y,hy,(aod _ _ y).symm,(hg y).symm⟩
 ·rintro ⟨y,hy,rfl,rfl⟩
  exact ⟨_,List.mem_map.2 ⟨y,hy,rfl⟩,aod _ _ y,hg y⟩
theorem Inv.remove (h:Inv S) (g:Int):Inv (S.remove g).1:=by
 unfold Cs.remove
 dsimp only
 split
 ·next h0=>
  obtain ⟨n,rfl,hn,x,hx,hxl,hk,he⟩:=axn h0
  have hw:=aEt h.wf (n:Int)
  rw [he] at hw ⊢
  dsimp only at hw ⊢
  have hlt:=(List.getElem?_eq_some_iff.1 hx).1
  have hfew:=h.wf.few
  have hnl:aaf S.tree n=true:=aa7.2 ⟨n,rfl,x,hx,hxl⟩
  have hup:ab9 S.tree n=x.up:=by unfold ab9;rw [if_pos hnl,Int.toNat_natCast,hx];rfl
  rw [hup]
  have hu:=h.wf.up n x hx hn
  obtain ⟨z,hz⟩:∃ z,S.tree[x.up.toNat]? =some z:=⟨_,List.getElem?_eq_getElem (by omega)⟩
  have hzl:=h.wf.live n x z hx hn hxl hz
  have eu:((x.up.toNat:Nat):Int)=x.up:=by omega
  have hul:aaf S.tree x.up=true:=by rw [<- eu];exact aa7.2 ⟨_,rfl,z,hz,hzl⟩
  have hpg:=agL h.tab n x.up
  have hf:∀ {y q},(S.pages.ownAll (S.pages.those n) x.up).pg y=some q ->∃ p,S.pages.pg y=some p/\q=if p.owner=(n:Int) then {p with owner:=x.up} else p:=by
   intro y q hq
   rw [hpg] at hq
   cases hp:S.pages.pg y with
   | none=>rw [hp] at hq;cases hq
   | some p=>rw [hp] at hq;exact ⟨p,rfl,(Option.some.inj hq).symm⟩
  refine ⟨⟨hw,by show S.guards.length=(S.tree.set n _).length;rw [List.length_set];exact h.gl,h.tab.moved n x.up,fun y q hq=> ?_,h.fr.gone h.tab h.wf h.own hn hx hxl hk,h.sl.gone h.tab h.wf h.own hn hx hxl hk,h.good.move _ _,fun y o=> ?_,h.log,fun y q hq=> ?_,h.txt,?_⟩,fun y q hq hk=> ?_⟩
  ·obtain ⟨p,hp,rfl⟩:=hf hq
   show aaf (S.tree.set n ⟨x.up,false⟩) _=true
   rw [ayW hx]
   split
   ·dsimp only
    rw [hul];simp;omega
   ·next e=>
    rw [show aaf S.tree p.owner=true from h.own _ _ hp]
    simpa using e
  ·show (∃ e∈(ah2 S.gens n x.up).1,_)↔∃ q,(S.pages.ownAll (S.pages.those n) x.up).pg y=some q/\_
   rw [aFw ⟨hu.1,by omega⟩]
   constructor
   ·rintro ⟨e,he,e1,e2⟩
    obtain ⟨p,hp,p1,p2⟩:=(h.gen y e.group).1 ⟨e,he,e1,rfl⟩
    refine ⟨_,by rw [hpg,hp];rfl,?_,?_⟩
    ·dsimp only
     split
     ·exact p1
     ·exact p1
    ·dsimp only
     rw [p2,<- e2]
     split
     ·rfl
     ·exact p2
   ·rintro ⟨q,hq,q1,q2⟩
    obtain ⟨p,hp,rfl⟩:=hf hq
    have p1:p.place=1:=by rw [<- q1];split<;>rfl
    obtain ⟨e,he,e1,e2⟩:=(h.gen y p.owner).2 ⟨p,hp,p1,rfl⟩
    refine ⟨e,he,e1,?_⟩
    rw [e2,<- q2]
    split<;>rfl
  ·obtain ⟨p,hp,rfl⟩:=hf hq
   have:=h.fil _ _ hp
   split
   ·exact this
   ·exact this
  ·show (S.pages.ownAll (S.pages.those n) x.up).next<=_
   rw [(aiR x.up _ _).1];exact h.ids
  ·obtain ⟨p,hp,rfl⟩:=hf hq
   have:=h.anon _ _ hp
   revert hk
   split
   ·exact this
   ·exact this
 ·exact h
end Go.Kc
end
section
namespace Go.Kc
open Go Go.Kt Go.Sp
structure Act where
 k:Int
 a:Int
 b:Int
 c:Int
 kf:Int
 ki:Int
def Cs.act (S:Cs) (x:Act):Cs×Int×Int×Int:=
 let k:=x.k.tmod 12
 if k=0 then let r:=S.addGroup x.a;(r.1,r.2.1,0,r.2.2)
 else if k=1 then let r:=S.remove x.a;(r.1,0,0,r.2)
 else if k=2 then let r:=S.limit x.a x.b x.c;(r.1,0,0,r.2)
 else if k=3 then S.fresh x.a
 else if k=4 then S.openF (x.kf,x.ki) x.a
 else if k=5 then let r:=S.bring x.b x.a;(r.1,r.2.1,0,r.2.2)
 else if k=6 then S.copy x.b x.a
 else if k=7 then let r:=S.put x.b x.a (u8I x.c);(r.1,0,0,r.2)
 else if k=8 then let r:=S.get x.b x.a;(r.1,r.2.1,0,r.2.2)
 else if k=9 then let r:=S.refer x.b x.c;(r.1,0,0,r.2)
 else if k=10 then let r:=S.age x.a;(r.1,r.2,0,0)
 else let r:=S.shrink x.a x.c;(r.1,r.2,0,0)
theorem iteI {α:Type} {P:α ->Prop} {c:Prop} [Decidable c] {a b:α} (h1:c ->P a) (h2:¬ c ->P b):P (if c then a else b):=by
 by_cases h:c
 ·rw [if_pos h];exact h1 h
 ·rw [if_neg h];exact h2 h
theorem ag3 {P:Cs×Int×Int×Int ->Prop} (S:Cs) (x:Act)
  (h0:x.k.tmod 12=0 ->P ((S.addGroup x.a).1,(S.addGroup x.a).2.1,0,(S.addGroup x.a).2.2)) (h1:x.k.tmod 12=1 ->P ((S.remove x.a).1,0,0,(S.remove x.a).2))
  (h2:x.k.tmod 12=2 ->P ((S.limit x.a x.b x.c).1,0,0,(S.limit x.a x.b x.c).2)) (h3:x.k.tmod 12=3 ->P (S.fresh x.a)) (h4:x.k.tmod 12=4 ->P (S.openF (x.kf,x.ki) x.a))
  (h5:x.k.tmod 12=5 ->P ((S.bring x.b x.a).1,(S.bring x.b x.a).2.1,0,(S.bring x.b x.a).2.2)) (h6:x.k.tmod 12=6 ->P (S.copy x.b x.a))
  (h7:x.k.tmod 12=7 ->P ((S.put x.b x.a (u8I x.c)).1,0,0,(S.put x.b x.a (u8I x.c)).2)) (h8:x.k.tmod 12=8 ->P ((S.get x.b x.a).1,(S.get x.b x.a).2.1,0,(S.get x.b x.a).2.2))
  (h9:x.k.tmod 12=9 ->P ((S.refer x.b x.c).1,0,0,(S.refer x.b x.c).2)) (h10:x.k.tmod 12=10 ->P ((S.age x.a).1,(S.age x.a).2,0,0))
  (h11:(¬ x.k.tmod 12=0/\¬ x.k.tmod 12=1/\¬ x.k.tmod 12=2/\¬ x.k.tmod 12=3/\¬ x.k.tmod 12=4/\¬ x.k.tmod 12=5/\¬ x.k.tmod 12=6/\¬ x.k.tmod 12=7/\¬ x.k.tmod 12=8/\¬ x.k.tmod 12=9/\¬ x.k.tmod 12=10) ->P ((S.shrink x.a x.c).1,(S.shrink x.a x.c).2,0,0)):P (S.act x):=by
 unfold Cs.act
 exact iteI h0 (fun n0=>iteI h1 (fun n1=>iteI h2 (fun n2=>iteI h3 (fun n3=>iteI h4 (fun n4=>iteI h5 (fun n5=>iteI h6 (fun n6=>iteI h7 (fun n7=>iteI h8 (fun n8=>iteI h9 (fun n9=>iteI h10 (fun n10=>h11 ⟨n0,n1,n2,n3,n4,n5,n6,n7,n8,n9,n10⟩)))))))))))
variable {S:Cs}
theorem Inv.act (h:Inv S) (hn:S.pages.next<16777216) (x:Act):Inv (S.act x).1:=by
 exact ag3 (P:=fun r=>Inv r.1) S x (fun _=>h.addGroup _) (fun _=>h.remove _) (fun _=>h.limit _ _ _) (fun _=>h.fresh hn _) (fun _=>h.openF hn _ _) (fun _=>h.bring _ _) (fun _=>h.copy hn _ _)
  (fun _=>h.put _ _ _) (fun _=>h.get _ _) (fun _=>h.refer _ _) (fun _=>h.age _) (fun _=>h.shrink _ _)
theorem apR {t:Int} :∀ (l:List (Int×Int)) {S:Cs},Inv S ->Outs S (shareOut t l S).1
 | [],S,_=> .refl S
 | (g,k)::l,S,h=>by
  have e:∀ (n:Nat) {S:Cs},Inv S ->Outs S (evictN t [g] n S).1:=by
   intro n
   induction n with
   | zero=>intro S _;exact .refl S
   | succ n ih=>intro S h;exact (Outs.evictG h t [g] false).trans (ih (h.evictG t [g] false))
  exact (e k.toNat h).trans (apR l (Inv.evictN k.toNat h))
theorem aup {t:Int} :∀ (n:Nat) {S:Cs},Inv S ->Outs S (evictM t n S).1
 | 0,S,_=> .refl S
 | n+1,S,h=>by
  unfold evictM
  dsimp only
  split
  ·exact (Outs.evictG h t _ _).trans (aup n (h.evict t))
  ·exact Outs.evictG h t _ _
theorem adY (h:Inv S) (t n:Int):Outs S (S.shrink t n).1:=by
 unfold Cs.shrink
 split
 ·exact .refl S
 ·exact (apR _ h).trans (aup _ (Inv.shareOut _ h))
theorem ajL (h:Inv S) (hn:S.pages.next<16777216) {g:Int} (hl:S.live g=true) (text:List UInt8):S.pages.next<=(S.withT g text).1.pages.next/\(S.withT g text).1.pages.next<=S.pages.next+1:=by
 rcases acb h hn hl text with ⟨S0,a,k,he,_,_⟩ | ⟨S0,t,k,he⟩
 ·have hk:=k.outs.kept h
  have hi:=k.outs.inv h
  have hm:=adQ S0.pages (kf:= -1) (ki:=0) (o:=g) ⟨hi.tab.next,by rw [hk.next];exact hn⟩ (.inl (by decide))
  have:(S.withT g text).1.pages.next=S.pages.next+1:=by
   rw [he]
   show (((S0.pages.make (-1) 0 g).1.own S0.pages.next g).1.put S0.pages.next 1 a).1.next=_
   have h1:∀ (T:TS) (id pl x:Int),(T.put id pl x).1.next=T.next:=by
    intro T id pl x
    unfold TS.put
    split
    ·rfl
    ·split
     ·rfl
     ·split<;>rfl
   rw [h1,(aFE _ _ _).1,hm.2.1,hk.next]
  omega
 ·rw [he]
  have:=(k.outs.kept h).next
  show S.pages.next<=S0.pages.next/\S0.pages.next<=_
  omega
theorem apb (h:Inv0 S) (hanon:∀ x p,S.pages.pg x=some p ->p.kf<0 ->p.place≠0) (id g:Int):(S.bring id g).1.pages.next=S.pages.next:=by
 have hI:Inv S:=⟨h,hanon⟩
 cases hp:S.pages.pg id with
 | none=>rw [abS h (.inl hp)]
 | some p=>
  cases hl:S.live g with
  | false=>rw [abS h (.inr (.inl hl))]
  | true=>
   by_cases h0:p.place=0/\p.kf<0
   ·rw [abS h (.inr (.inr ⟨p,hp,h0⟩))]
   ·by_cases h1:p.place=1
    ·rw [acA h hp h1 hl]
    ·rcases acs h hanon hp hl h0 h1 with ⟨S0,a,k,hi⟩ | ⟨S0,t,k,he⟩
     ·exact k.next
     ·rw [he];exact (k.outs.kept hI).next
theorem agq (h:Inv S) (hn:S.pages.next<16777216) (x:Act):S.pages.next<=(S.act x).1.pages.next/\(S.act x).1.pages.next<=S.pages.next+1:=by
 have same:∀ {T:TS},T.next=S.pages.next ->S.pages.next<=T.next/\T.next<=S.pages.next+1:=fun e=>by omega
 refine ag3 (P:=fun r=>S.pages.next<=r.1.pages.next/\r.1.pages.next<=S.pages.next+1) S x (fun _=> ?_) (fun _=> ?_) (fun _=> ?_) (fun _=> ?_) (fun _=> ?_) (fun _=> ?_) (fun _=> ?_) (fun _=> ?_) (fun _=> ?_) (fun _=> ?_) (fun _=> ?_) (fun _=> ?_)
 ·refine same ?_;unfold Cs.addGroup;dsimp only;split<;>rfl
 ·refine same ?_
  unfold Cs.remove
  dsimp only
  split
  ·exact (aiR _ _ _).1
  ·rfl
 ·refine same ?_
  unfold Cs.limit Cs.setG
  repeat' split
  all_goals rfl
 ·unfold Cs.fresh
  split
  ·exact same rfl
  ·next hl=>exact ajL h hn (by simpa using hl) _
 ·unfold Cs.openF
  dsimp only
  split
  ·exact same rfl
  ·next hh=>
   have hl:S.live x.a=true:=by
    cases hh':S.live x.a with
    | true=>rfl
    | false=>exact absurd (.inr hh') hh
   have hf:fHas S.files (x.kf,x.ki)=true:=by
    cases hh':fHas S.files (x.kf,x.ki) with
    | true=>rfl
    | false=>exact absurd (.inl hh') hh
   by_cases hm:S.pages.of (x.kf,x.ki)<0
   ·rw [decide_eq_true hm]
    simp only [if_true]
    have hkf:=aeK hf
    have hmk:=adQ S.pages (kf:=x.kf) (ki:=x.ki) (o:=x.a) ⟨h.tab.next,hn⟩ (.inr hm)
    have hI:=h.toInv0.make hn (kf:=x.kf) (ki:=x.ki) hl (.inr ⟨hm,hf⟩)
    have hkey:aaR S.pages x.kf x.ki=(x.kf,x.ki):=by unfold aaR;rw [if_neg (by have:0<=x.kf:=hkf;omega)]
    have hanon:∀ y p,(S.pages.make x.kf x.ki x.a).1.pg y=some p ->p.kf<0 ->p.place≠0:=by
     intro y q hq hq0
     rw [hmk.2.2] at hq
     split at hq
     ·rw [<- Option.some.inj hq,hkey] at hq0
      have:x.kf<0:=hq0
      have:0<=x.kf:=hkf
      omega
     ·exact h.anon _ _ hq hq0
    have hb:=apb hI hanon (S.pages.make x.kf x.ki x.a).2.1 x.a
    have hb:(Cs.bring {S with pages:=(S.pages.make x.kf x.ki x.a).1} (S.pages.make x.kf x.ki x.a).2.1 x.a).1.pages.next=S.pages.next+1:=by rw [hb];exact hmk.2.1
    have hd:∀ (T:TS) (id:Int),(T.drop id).1.next=T.next:=by
     intro T id
     unfold TS.drop
     split
     ·rfl
     ·split<;>rfl
    split
    ·rw [hb];omega
    ·show _<=((Cs.bring _ _ _).1.pages.drop _).1.next/\((Cs.bring _ _ _).1.pages.drop _).1.next<=_
     rw [hd,hb];omega
   ·rw [decide_eq_false hm]
    simp only [Bool.false_eq_true,if_false]
    have:=apb h.toInv0 h.anon (S.pages.of (x.kf,x.ki)) x.a
    split<;>exact same this
 ·exact same (apb h.toInv0 h.anon _ _)
 ·unfold Cs.copy
  dsimp only
  split
  ·exact same rfl
  ·next hl=>
   have hl:S.live x.a=true:=by
    cases hh:S.live x.a with
    | true=>rfl
    | false=>exact absurd (.inr (.inl hh)) hl
   exact ajL h hn hl _
 ·refine same ?_
  unfold Cs.put
  dsimp only
  split
  ·rfl
  ·split
   ·exact (abv _ _ _).1
   ·rfl
 ·refine same ?_
  unfold Cs.get
  dsimp only
  split
  ·rfl
  ·dsimp only;split<;>rfl
 ·refine same ?_
  rcases ab1 h x.b x.c with ⟨_,he⟩ | ⟨p,hp,⟨_,he⟩ | ⟨_,_,he⟩ | ⟨_,_,_,_,he,_⟩⟩
  ·rw [he]
  ·rw [he]
  ·rw [he];rfl
  ·exact he
 ·exact same rfl
 ·exact same ((adY h _ _).kept h).next
end Go.Kc
end
section
set_option maxRecDepth 100000
namespace Go.Kc
open Go Go.Kt
variable {S:Cs}
theorem aGC (h:Inv S) (hn:S.pages.next<16777216) {k:Int×Int} {g:Int} (hl:S.live g=true) (hf:fHas S.files k=true) (hm:S.pages.of k<0):Inv {S with pages:=(S.pages.make k.1 k.2 g).1} :=by
 obtain ⟨kf,ki⟩:=k
 have hkf:=aeK hf
 have hmk:=adQ S.pages (kf:=kf) (ki:=ki) (o:=g) ⟨h.tab.next,hn⟩ (.inr hm)
 have hI:=h.toInv0.make hn (kf:=kf) (ki:=ki) hl (.inr ⟨hm,hf⟩)
 have hkey:aaR S.pages kf ki=(kf,ki):=by unfold aaR;rw [if_neg (by have:0<=kf:=hkf;omega)]
 have hanon:∀ x p,(S.pages.make kf ki g).1.pg x=some p ->p.kf<0 ->p.place≠0:=by
  intro x q hq hq0
  rw [hmk.2.2] at hq
  split at hq
  ·rw [<- Option.some.inj hq,hkey] at hq0
   have:kf<0:=hq0
   have:0<=kf:=hkf
   omega
  ·exact h.anon _ _ hq hq0
 exact ⟨hI,hanon⟩
theorem aBp {F:FS} {k:Int×Int} :(asU F k).2≠0↔fHas F k=false:=by
 unfold asU
 by_cases h:fHas F k=false
 ·rw [if_pos h];simp [h]
 ·rw [if_neg h]
  split<;>simp [h]
end Go.Kc
namespace Go.Mp
open Go Go.Vc Go.Sp Go.Proofs Go.Kc
variable {E:Env} {L:List Asn} {w:World} {A:At} {S:Cs}
theorem aE2 {k:Int×Int} {g:Int} (I:Kc.Inv S) (hn:S.pages.next<16777216) (h:Sep E (aaa A S++L) w):Calls P afD #[.pointer (some ⟨A.c,0,none⟩),.agg #[.int .i64 k.1,.int .i64 k.2],.int .i64 g] w
  (Ret fun v w'=>v= .tuple #[.int .i64 (S.openF k g).2.1,.int .i64 (S.openF k g).2.2.1,.int .i64 (S.openF k g).2.2.2]/\Sep E (aaa A (S.openF k g).1++L) w'):=by
 apply atE
 refine Al.i h (fun b w1 h1=> ?_)
 have h1:Sep E (aaa A S++blk b [.int .i64 k.1,.int .i64 k.2]::L) w1:=Sep.inn h1
 have hno:(fHas S.files k=false\/S.live g=false) ->S.openF k g=(S, -1, -1,2):=by
  intro hc;unfold Cs.openF;rw [if_pos hc]
 refine ⟨fun w'=>fHas S.files k=true/\S.live g=true/\Sep E (aaa A S++blk b [.int .i64 k.1,.int .i64 k.2]::L) w',Dr.i h1 (fun w2 h2=>⟨_,rfl,ld h2 0 rfl rfl rfl (ld h2 16 rfl rfl rfl (ld h2 16 rfl rfl rfl (use (aum k (h2.fr 8 rfl)) ?_)))⟩),?_⟩
 ·rintro _ w3 ⟨rfl,h3⟩
  have h3:=h3.put (q:=8) rfl
  have h3:Sep E (aaa A S++blk b [.int .i64 k.1,.int .i64 k.2]::L) w3:=h3
  refine ⟨_,_,rfl,bNe (fun hf=> ?_) (fun he=> ?_)⟩
  ·rw [hno (.inl (aBp.1 hf))];exact ⟨rfl,h3.cut⟩
  ·have hfh:fHas S.files k=true:=by
    cases hh:fHas S.files k with
    | true=>rfl
    | false=>exact absurd he (aBp.2 hh)
   refine ⟨_,rfl,ld h3 0 rfl rfl rfl (use (adG h3 (q:=1) rfl) ?_)⟩
   rintro _ _ ⟨rfl,rfl⟩
   refine ⟨_,rfl,bifI (fun hd=> ?_) (fun hlv=> ?_)⟩
   ·have hd:Kt.aaf S.tree g=false:=by simpa using hd
    rw [hno (.inr hd)];exact ⟨rfl,h3.cut⟩
   ·have hlv:Kt.aaf S.tree g=true:=by simpa using hlv
    exact ⟨hfh,hlv,h3⟩
 rintro _ w2 ⟨hfh,hlv,h2⟩
 refine Dr.i h2 (fun w3 h3=>⟨_,rfl,ld h3 0 rfl rfl rfl (ld h3 16 rfl rfl rfl (ld h3 16 rfl rfl rfl (use (Tp.c_Of k (h3.fr 11 rfl)) ?_)))⟩)
 rintro _ w4 ⟨rfl,h4⟩
 have h4:=h4.put (q:=11) rfl
 have h4:Sep E (aaa A S++blk b [.int .i64 k.1,.int .i64 k.2]::L) w4:=h4
 obtain ⟨S1,hS1⟩:∃ S1,S1=if S.pages.of k<0 then {S with pages:=(S.pages.make k.1 k.2 g).1} else S:=⟨_,rfl⟩
 obtain ⟨i1,hi1⟩:∃ i1,i1=if S.pages.of k<0 then (S.pages.make k.1 k.2 g).2.1 else S.pages.of k:=⟨_,rfl⟩
 have I1:Kc.Inv S1:=by
  rw [hS1];split
  ·next hm=>exact aGC I hn hlv hfh hm
  ·exact I
 have e:S.openF k g=if (S1.bring i1 g).2.2=0 then ((S1.bring i1 g).1,i1, -1,0) else if S.pages.of k<0 then ({(S1.bring i1 g).1 with pages:=((S1.bring i1 g).1.pages.drop i1).1}, -1,(S1.bring i1 g).2.1,(S1.bring i1 g).2.2) else ((S1.bring i1 g).1, -1,(S1.bring i1 g).2.1,(S1.bring i1 g).2.2):=by
  rw [hS1,hi1]
  unfold Cs.openF
  rw [if_neg (by rw [hfh,hlv];simp)]
  by_cases hm:S.pages.of k<0
  ·simp only [hm,decide_true,if_true]
  ·simp only [hm,decide_false,if_false,Bool.false_eq_true]
 refine ⟨_,rfl,fun id w'=>id=i1/\Sep E (aaa A S1++blk b [.int .i64 k.1,.int .i64 k.2]::L) w',bLt (fun hm=> ?_) (fun hm=>⟨by rw [hi1,if_neg (by omega)],by rw [hS1,if_neg (by omega)];exact h4⟩),?_⟩
 ·refine Dr.i h4 (fun w5 h5=>⟨_,rfl,ld h5 0 rfl rfl rfl (ld h5 16 rfl rfl rfl (ld h5 16 rfl rfl rfl (use (Tp.awm k.1 k.2 g I.tab.fresh (h5.fr 11 rfl)) ?_)))⟩)
  rintro _ w6 ⟨rfl,h6⟩
  have h6:=h6.put (q:=11) rfl
  exact ⟨_,_,rfl,by rw [hi1,if_pos hm],by rw [hS1,if_pos hm];exact h6⟩
 rintro _ id w5 ⟨rfl,h5⟩
 refine use (axN I1 h5) ?_
 rintro _ w6 ⟨rfl,h6⟩
 rw [e]
 refine ⟨_,_,rfl,bEq (fun e0=> ?_) (fun n0=>bLt (fun hm=> ?_) (fun hm=> ?_))⟩
 ·rw [if_pos e0];exact ⟨rfl,h6.cut⟩
 ·rw [if_neg n0,if_pos hm]
  refine ⟨_,rfl,ld h6 0 rfl rfl rfl (use (Tp.ark id (h6.fr 11 rfl)) ?_)⟩
  rintro _ w7 ⟨rfl,h7⟩
  have h7:=h7.put (q:=11) rfl
  have h7:Sep E (aaa A {(S1.bring id g).1 with pages:=((S1.bring id g).1.pages.drop id).1} ++blk b [.int .i64 k.1,.int .i64 k.2]::L) w7:=h7
  exact ⟨_,rfl,rfl,h7.cut⟩
 ·rw [if_neg n0,if_neg (by omega)];exact ⟨rfl,h6.cut⟩
theorem ahW {id at_:Int} (I:Kc.Inv S) (h:Sep E (aaa A S++L) w):Calls P ac1 #[.pointer (some ⟨A.c,0,none⟩),.int .i64 id,.int .i64 at_] w
  (Ret fun v w'=>v= .tuple #[.int .u8 (S.get id at_).2.1,.int .i64 (S.get id at_).2.2]/\Sep E (aaa A (S.get id at_).1++L) w'):=by
 apply avt
 refine use (aE9 id h) ?_
 rintro _ w1 ⟨rfl,h1⟩
 refine ⟨_,_,rfl,bifI (fun hd=> ?_) (fun hl=> ?_)⟩
 ·have hd:(S.here id).2=false:=by simpa using hd
  have e:S.get id at_=(S,0,2):=by unfold Cs.get;dsimp only;rw [if_pos hd]
  rw [e];exact ⟨rfl,h1⟩
 have hl:(S.here id).2=true:=by simpa using hl
 refine ⟨_,rfl,ld h1 0 rfl rfl rfl (use (aCz (S.here id).1 at_ (h1.fr 3 rfl)) ?_)⟩
 rintro _ _ ⟨rfl,rfl⟩
 have e:S.get id at_=(if (By.gt S.fr.pool.length S.fr.by_ (S.here id).1 at_).2=0 then {S with gens:=(abZ S.gens id).1} else S,((By.gt S.fr.pool.length S.fr.by_ (S.here id).1 at_).1.toNat:Int),(By.gt S.fr.pool.length S.fr.by_ (S.here id).1 at_).2):=by
  unfold Cs.get;dsimp only;rw [if_neg (by rw [hl];decide)]
 rw [e]
 refine ⟨_,_,rfl,bEq (fun e0=> ?_) (fun n0=> ?_)⟩
 ·rw [if_pos e0]
  refine ⟨_,rfl,ld h1 0 rfl rfl rfl (use (Gp.axO I.good id (h1.fr 9 rfl)) ?_)⟩
  rintro _ w3 ⟨rfl,h3⟩
  have h3:=h3.put (q:=9) rfl
  exact ⟨_,rfl,rfl,h3⟩
 ·rw [if_neg n0];exact ⟨rfl,h1⟩
theorem am1 {id at_:Int} {x:UInt8} (I:Kc.Inv S) (h:Sep E (aaa A S++L) w):Calls P aeQ #[.pointer (some ⟨A.c,0,none⟩),.int .i64 id,.int .i64 at_,.int .u8 x.toNat] w
  (Ret fun v w'=>v= .int .i64 (S.put id at_ x).2/\Sep E (aaa A (S.put id at_ x).1++L) w'):=by
 apply avu
 refine use (aE9 id h) ?_
 rintro _ w1 ⟨rfl,h1⟩
 refine ⟨_,_,rfl,bifI (fun hd=> ?_) (fun hl=> ?_)⟩
 ·have hd:(S.here id).2=false:=by simpa using hd
  have e:S.put id at_ x=(S,2):=by unfold Cs.put;dsimp only;rw [if_pos hd]
  rw [e];exact ⟨rfl,h1⟩
 have hl:(S.here id).2=true:=by simpa using hl
 refine ⟨_,rfl,ld h1 0 rfl rfl rfl (use (aCB (S.here id).1 at_ x (h1.fr 3 rfl)) ?_)⟩
 rintro _ w2 ⟨rfl,h2⟩
 have h2:=h2.put (q:=3) rfl
 obtain ⟨r,hr⟩:∃ r,By.pt S.fr.pool.length S.fr.by_ (S.here id).1 at_ x=r:=⟨_,rfl⟩
 have e:S.put id at_ x=if r.2=0 then ({S with fr:= {S.fr with by_:=r.1},gens:=(abZ S.gens id).1,pages:=(S.pages.mark id true).1},0) else (S,r.2):=by
  unfold Cs.put;dsimp only;rw [if_neg (by rw [hl];decide),hr]
 rw [hr] at h2 ⊢
 rw [e]
 have h2:Sep E (aaa A {S with fr:= {S.fr with by_:=r.1}} ++L) w2:=h2
 refine ⟨_,rfl,bEq (fun e0=> ?_) (fun n0=> ?_)⟩
 ·rw [if_pos e0]
  refine ⟨_,rfl,ld h2 0 rfl rfl rfl (use (Gp.axO I.good id (h2.fr 9 rfl)) ?_)⟩
  rintro _ w3 ⟨rfl,h3⟩
  have h3:=h3.put (q:=9) rfl
  have h3:Sep E (aaa A {S with fr:= {S.fr with by_:=r.1},gens:=(abZ S.gens id).1} ++L) w3:=h3
  refine ⟨_,rfl,_,rfl,ld h3 0 rfl rfl rfl (use (Tp.aE1 id true (h3.fr 11 rfl)) ?_)⟩
  rintro _ w4 ⟨rfl,h4⟩
  have h4:=h4.put (q:=11) rfl
  exact ⟨_,rfl,by rw [e0],h4⟩
 ·rw [if_neg n0]
  have hsame:r.1=S.fr.by_:=by
   rw [<- hr] at n0 ⊢
   unfold By.pt at n0 ⊢
   split
   ·next hc=>rw [if_pos hc] at n0;exact absurd rfl n0
   ·rfl
  rw [hsame] at h2
  exact ⟨rfl,h2⟩
end Go.Mp
end
section
set_option maxRecDepth 100000
namespace Go.Mp
open Go Go.Vc Go.Sp Go.Proofs Go.Kc
variable {E:Env} {L:List Asn} {w:World} {A:At} {S:Cs}
theorem auV {id n:Int} (I:Kc.Inv S) (h:Sep E (aaa A S++L) w):Calls P ad6 #[.pointer (some ⟨A.c,0,none⟩),.int .i64 id,.int .i64 n] w
  (Ret fun v w'=>v= .int .i64 (S.refer id n).2/\Sep E (aaa A (S.refer id n).1++L) w'):=by
 apply arL
 refine ⟨_,rfl,ld h 0 rfl rfl rfl (use (Tp.aHq id n (h.fr 11 rfl)) ?_)⟩
 rintro _ w1 ⟨rfl,h1⟩
 have h1:=h1.put (q:=11) rfl
 obtain ⟨r,hr⟩:∃ r,S.pages.refer id n=r:=⟨_,rfl⟩
 obtain ⟨S1,hS1⟩:∃ S1:Cs,S1= {S with pages:=r.1} :=⟨_,rfl⟩
 rw [hr] at h1 ⊢
 have h1:Sep E (aaa A S1++L) w1:=by rw [hS1];exact h1
 have hno:(r.2.2≠0\/0<r.2.1) ->S.refer id n=(S1,r.2.2):=by
  intro hc;unfold Cs.refer;rw [hr,hS1];dsimp only;rw [if_pos hc]
 refine ⟨_,_,rfl,fun w'=>¬ (r.2.2≠0\/0<r.2.1)/\Sep E (aaa A S1++L) w',bNe (fun hf=> ?_) (fun he=>bGt (fun hg=> ?_) (fun hg=>⟨by omega,h1⟩)),?_⟩
 ·rw [hno (.inl hf)];exact ⟨rfl,h1⟩
 ·rw [hno (.inr hg)];exact ⟨rfl,h1⟩
 rintro _ w2 ⟨hc,h2⟩
 have hW:Kt.WF S1.tree:=by rw [hS1];exact I.wf
 have hG:Kc.Good S1.gens:=by rw [hS1];exact I.good
 refine ⟨_,rfl,ld h2 0 rfl rfl rfl (use (Tp.ahW id (h2.fr 11 rfl)) ?_)⟩
 rintro _ w3 ⟨rfl,h3⟩
 have h3:Sep E (aaa A S1++L) w3:=h3.put (q:=11) rfl
 obtain ⟨p,hp⟩:∃ p,(S1.pages.get id).1=p:=⟨_,rfl⟩
 rw [hp]
 refine ⟨_,_,_,_,_,_,_,_,_,_,rfl,Al.i h3 (fun b w4 h4=>zst (vs:=p.vs) _ h4 rfl (fun w5 h5=> ?_))⟩
 have h5:Sep E (aaa A S1++blk b p.vs::L) w5:=Sep.inn h5
 refine Dr.i h5 (fun w6 h6=>⟨_,rfl,ld h6 0 rfl rfl rfl (ld h6 16 rfl rfl rfl (use (akg hW (h6.fr 1 rfl)) ?_))⟩)
 rintro _ w7 ⟨ch,rfl,hch,h7⟩
 have h7:=h7.put1 (q:=1) rfl
 have h7:Sep E (aaa A S1++rowA ch 1 (intL (S1.chain p.owner))::blk b p.vs::L) w7:=Sep.inn (Q:=aaa A S1) h7
 have hI:Ints E (rowA ch 1 (intL (S1.chain p.owner))::blk b p.vs::L) ch (S1.chain p.owner):=Ints.row hch
 have hcl:(S1.chain p.owner).length<=64:=agt hW _
 obtain ⟨S2,hS2⟩:∃ S2:Cs,S2=if p.place=1 then {S1.clean id p with fr:=(S1.clean id p).fr.give p.at_ (S1.chain p.owner),gens:=(adX (S1.clean id p).gens id).1} else if p.place=2 then {S1 with sl:=S1.sl.give p.at_ (S1.chain p.owner)} else S1:=⟨_,rfl⟩
 have e:S.refer id n=({S2 with pages:=((S2.pages.put id 0 0).1.drop id).1},((S2.pages.put id 0 0).1.drop id).2):=by
  clear h1 h2 h3 h4 h5 h7 hI
  subst hS2 hp hS1
  unfold Cs.refer;rw [hr];dsimp only;rw [if_neg hc]
 refine ⟨_,rfl,fun w'=>Sep E (aaa A S2++rowA ch 1 (intL (S1.chain p.owner))::blk b p.vs::L) w',ld h7 17 rfl rfl rfl (bEq (fun e1=> ?_) (fun n1=>bEq (fun e2=> ?_) (fun n2=>by rw [hS2,if_neg n1,if_neg n2];exact h7))),?_⟩
 ·iterate 9 refine ld h7 17 rfl rfl rfl ?_
  refine use (aDn id p h7) ?_
  rintro _ w8 ⟨rfl,h8⟩
  have hcg:(S1.clean id p).gens=S1.gens:=by unfold Cs.clean;split<;>rfl
  refine ⟨rfl,Dr.i h8 (fun w9 h9=>⟨_,rfl,ld h9 0 rfl rfl rfl (ld h9 0 rfl rfl rfl (ld h9 0 rfl rfl rfl (ld h9 17 rfl rfl rfl (use (aDq p.at_ hI hcl h9) ?_))))⟩)⟩
  rintro _ w10 ⟨rfl,h10⟩
  refine ⟨rfl,_,rfl,ld h10 0 rfl rfl rfl (use (Gp.ark (by show Kc.Good (S1.clean id p).gens;rw [hcg];exact hG) id (h10.fr 9 rfl)) ?_)⟩
  rintro _ w11 ⟨rfl,h11⟩
  have h11:=h11.put (q:=9) rfl
  rw [hS2,if_pos e1]
  exact ⟨_,rfl,h11⟩
 ·refine Dr.i h7 (fun w9 h9=>⟨_,rfl,ld h9 0 rfl rfl rfl (ld h9 0 rfl rfl rfl (ld h9 0 rfl rfl rfl (ld h9 17 rfl rfl rfl (use (aDr p.at_ hI hcl h9) ?_))))⟩)
  rintro _ w10 ⟨rfl,h10⟩
  rw [hS2,if_neg n1,if_pos e2]
  exact ⟨rfl,h10⟩
 intro _ w8 h8
 refine ⟨_,rfl,ld h8 0 rfl rfl rfl (use (Tp.am1 id 0 0 (h8.fr 11 rfl)) ?_)⟩
 rintro _ w9 ⟨rfl,h9⟩
 have h9:=h9.put (q:=11) rfl
 have h9:Sep E (aaa A {S2 with pages:=(S2.pages.put id 0 0).1} ++rowA ch 1 (intL (S1.chain p.owner))::blk b p.vs::L) w9:=h9
 refine ⟨_,rfl,_,rfl,ld h9 0 rfl rfl rfl (use (Tp.ark id (h9.fr 11 rfl)) ?_)⟩
 rintro _ w10 ⟨rfl,h10⟩
 have h10:=h10.put (q:=11) rfl
 have h10:Sep E (aaa A {S2 with pages:=((S2.pages.put id 0 0).1.drop id).1} ++rowA ch 1 (intL (S1.chain p.owner))::blk b p.vs::L) w10:=h10
 rw [e]
 exact ⟨_,rfl,rfl,h10.cut.cut⟩
theorem ahX (id:Int) (h:Sep E (aaa A S++L) w):Calls P abt #[.pointer (some ⟨A.c,0,none⟩),.int .i64 id] w (Ret fun v w'=>v= .tuple #[.agg (S.pages.get id).1.vs.toArray,.int .i64 (S.pages.get id).2]/\Sep E (aaa A S++L) w'):=by
 apply atF
 refine Al.i h (fun b w1 h1=> ?_)
 have h1:=Sep.inn (Q:=aaa A S) h1
 refine ⟨_,rfl,ld h1 0 rfl rfl rfl (use (Tp.ahW id (h1.fr 11 rfl)) ?_)⟩
 rintro _ w2 ⟨rfl,h2⟩
 have h2:=h2.put (q:=11) rfl
 have h2:=Sep.outt (Q:=aaa A S) (L:=L) h2
 refine ⟨_,_,_,_,_,_,_,_,_,_,rfl,zst (vs:=(S.pages.get id).1.vs) _ h2 rfl (fun w3 h3=> ?_)⟩
 iterate 9 refine ld h3 0 rfl rfl rfl ?_
 exact ⟨rfl,h3.tail⟩
theorem al8 (h:Sep E (aaa A S++L) w):Calls P aci #[.pointer (some ⟨A.c,0,none⟩)] w (Ret fun v w'=>v= .pointer (some ⟨A.t,0,none⟩)/\Sep E (aaa A S++L) w'):=by
 apply atH
 exact ⟨_,rfl,ld h 0 rfl rfl rfl ⟨rfl,h⟩⟩
theorem afO {g:Int} (I:Kc.Inv S) (h:Sep E (aaa A S++L) w):Calls P aa1 #[.pointer (some ⟨A.c,0,none⟩),.int .i64 g] w
  (Ret fun v w'=>v= .tuple #[.int .i64 (S.fresh g).2.1,.int .i64 (S.fresh g).2.2.1,.int .i64 (S.fresh g).2.2.2]/\Sep E (aaa A (S.fresh g).1++L) w'):=by
 apply arI
 refine ⟨_,rfl,ld h 0 rfl rfl rfl (use (adG h (q:=1) rfl) ?_)⟩
 rintro _ _ ⟨rfl,rfl⟩
 refine ⟨_,rfl,bifI (fun hd=> ?_) (fun hlv=> ?_)⟩
 ·have hd:Kt.aaf S.tree g=false:=by simpa using hd
  have e:S.fresh g=(S, -1, -1,2):=by unfold Cs.fresh;rw [if_pos (show S.live g=false from hd)]
  rw [e];exact ⟨rfl,h⟩
 ·have hlv:Kt.aaf S.tree g=true:=by simpa using hlv
  have e:S.fresh g=S.withT g By.zs:=by unfold Cs.fresh;rw [if_neg (by rw [show S.live g=true from hlv];decide)]
  rw [e]
  refine makeSlice.i h aFS (by decide) (Int.le_refl _) (by decide) (by decide) (fun b w1 h1=> ?_)
  have h1:Sep E (blk b (u8s By.zs)::(aaa A S++L)) w1:=h1
  have hcv:=cvB By.zs h1 (q:=0) (o:=0) (n:=16) (c:=16) rfl rfl (fun j hj=>by
   rw [Nat.zero_add,aoH,List.getElem?_eq_getElem hj];rfl)
  refine ⟨_,hcv,use (aFg I hlv By.zs h1.tail) ?_⟩
  rintro _ w2 ⟨rfl,h2⟩
  exact ⟨_,_,_,rfl,rfl,h2⟩
theorem anu {R:List Ent} :∀ (l:List Int) (g:Int),abn R (l++ [g])=((adc (abn R l).1 g adV).1,(abn R l).2+(adc (abn R l).1 g adV).2)
 | [],g=>by simp [abn]
 | x::l,g=>by
  rw [List.cons_append,abn,anu l g,abn]
  simp only [Prod.mk.injEq,true_and]
  omega
theorem good_len {R:List Ent} (G:Kc.Good R):R.length<=16777217:=by
 have h:=ahD 16777217 (R.map Ent.id) (by
  rw [List.nodup_iff_pairwise_ne,List.pairwise_map]
  exact G.rise.imp (fun hlt he=>by omega)) (fun x hx=>by
  obtain ⟨e,he,rfl⟩:=List.mem_map.1 hx
  have:=(G.ok e he).1
  omega)
 simpa using h
theorem aEU {t:Int} (I:Kc.Inv S) (h:Sep E (aaa A S++L) w):Calls P agy #[.pointer (some ⟨A.c,0,none⟩),.int .i64 t] w
  (Ret fun v w'=>v= .int .i64 (S.age t).2/\Sep E (aaa A (S.age t).1++L) w'):=by
 apply avs
 refine ⟨_,rfl,ld h 0 rfl rfl rfl (use (asS I.wf (h.fr 1 rfl)) ?_)⟩
 rintro _ w1 ⟨s,rfl,hs,h1⟩
 have h1:=h1.put1 (q:=1) rfl
 obtain ⟨gs,hgs⟩:∃ gs,Kt.abe S.tree t=gs:=⟨_,rfl⟩
 have hgl:gs.length<=64:=by rw [<- hgs];exact apa I.wf t
 have e:S.age t=({S with gens:=(abn S.gens gs).1},(abn S.gens gs).2):=by unfold Cs.age;rw [hgs]
 rw [hgs] at hs h1
 rw [e]
 have h1:Sep E (aaa A S++rowA s 1 (intL gs)::L) w1:=Sep.inn (Q:=aaa A S) h1
 have hbd:∀ k,0<=(abn S.gens (gs.take k)).2/\(k<=gs.length ->(abn S.gens (gs.take k)).2<=k*16777217):=by
  intro k
  induction k with
  | zero=>simp [abn]
  | succ k ih=>
   by_cases hk:k<gs.length
   ·have hx:gs[k]? =some gs[k]:=List.getElem?_eq_getElem hk
    rw [aaj hx,anu]
    have hg:=akw (gs.take k) I.good
    have h2:=good_len hg.1
    have h3:(adc (abn S.gens (gs.take k)).1 gs[k] adV).2<=((abn S.gens (gs.take k)).1.length:Nat):=by
     unfold adc;simp only
     have:=List.length_filter_le (akA gs[k] adV) (abn S.gens (gs.take k)).1
     omega
    have h4:0<=(adc (abn S.gens (gs.take k)).1 gs[k] adV).2:=by unfold adc;simp only;omega
    have h5:=ih.2 (by omega)
    refine ⟨by simp only;omega,fun _=>by simp only;omega⟩
   ·have e1:gs.take (k+1)=gs.take k:=by rw [List.take_of_length_le (by omega),List.take_of_length_le (by omega)]
    rw [e1];exact ⟨ih.1,fun hh=>by omega⟩
 refine ⟨s,rfl,fun n x w'=>(∃ k:Nat,x=k/\k<=gs.length/\n=(abn S.gens (gs.take k)).2/\Sep E (aaa A {S with gens:=(abn S.gens (gs.take k)).1} ++rowA s 1 (intL gs)::L) w'),fun _ x _=>(gs.length - x).toNat,⟨0,rfl,Nat.zero_le _,rfl,h1⟩,?_⟩
 rintro _ _ _ w2 ⟨k,rfl,hk,rfl,h2⟩
 refine bLt (fun hlt=> ?_) (fun hge=> ?_)
 ·have hkl:k<gs.length:=by omega
  obtain ⟨g,hg⟩:∃ g,gs[k]? =some g:=⟨_,List.getElem?_eq_getElem hkl⟩
  have hG:=akw (gs.take k) I.good
  have hlen:=good_len hG.1
  refine (Ints.at_ (q:=16) rfl hs).el h2 k rfl hg ⟨_,rfl,ld h2 0 rfl rfl rfl (use (Gp.aIx hG.1 g (by show (abn S.gens (gs.take k)).1.length<_;omega) (h2.fr 9 rfl)) ?_)⟩
  rintro _ w3 ⟨rfl,h3⟩
  have h3:=h3.put (q:=9) rfl
  have hst:=anu (R:=S.gens) (gs.take k) g
  rw [<- aaj hg] at hst
  have hb1:=(hbd (k+1)).1
  have hb2:=(hbd (k+1)).2 hkl
  have e2:(abn S.gens (gs.take (k+1))).2=(abn S.gens (gs.take k)).2+(adc (abn S.gens (gs.take k)).1 g adV).2:=by rw [hst]
  have e1:(abn S.gens (gs.take (k+1))).1=(adc (abn S.gens (gs.take k)).1 g adV).1:=by rw [hst]
  refine ⟨_,rfl,?_⟩
  rw [aah (by omega)]
  have hw:IntKind.i64.wrap ((abn S.gens (gs.take k)).2+(adc (abn S.gens (gs.take k)).1 g adV).2)=(abn S.gens (gs.take (k+1))).2:=by rw [w64 (by omega) (by omega),e2]
  refine ⟨⟨k+1,rfl,hkl,hw,by rw [e1];exact h3⟩,?_⟩
  show (((gs.length:Nat):Int) - ((k+1:Nat):Int)).toNat<(((gs.length:Nat):Int) - (k:Int)).toNat
  omega
 ·have:k=gs.length:=by omega
  subst this
  rw [List.take_length] at h2 ⊢
  exact ⟨rfl,h2.cut⟩
theorem auU {g what n:Int} (I:Kc.Inv S) (h:Sep E (aaa A S++L) w):Calls P ad5 #[.pointer (some ⟨A.c,0,none⟩),.int .i64 g,.int .i64 what,.int .i64 n] w
  (Ret fun v w'=>v= .int .i64 (S.limit g what n).2/\Sep E (aaa A (S.limit g what n).1++L) w'):=by
 apply arJ
 have hl0:S.live g=false ->S.limit g what n=(S,2):=by intro hc;unfold Cs.limit;rw [if_pos hc]
 have hl1:S.live g=true ->isA n=false ->S.limit g what n=(S,1):=by intro hc hn;unfold Cs.limit;rw [if_neg (by rw [hc];decide),if_pos hn]
 have hl2:S.live g=true ->isA n=true ->S.limit g what n=(if what=0 then (S.setG g {S.gAt g with min:=n},0)
   else if what=1 then (S.setG g {S.gAt g with low:=n},0)
   else if what=2 then ({S with fr:= {S.fr with used:=(aaK S.fr.used g n).1}},(aaK S.fr.used g n).2)
   else if what=3 then ({S with sl:= {S.sl with used:=(aaK S.sl.used g n).1}},(aaK S.sl.used g n).2)
   else if what=4 then (if 1<n then (S,1) else (S.setG g {S.gAt g with whole:=n==1},0)) else (S,1)):=by
  intro hc hn;unfold Cs.limit;rw [if_neg (by rw [hc];decide),if_neg (by rw [hn];decide)]
 have htop:=ag7
 refine ⟨fun w'=>S.live g=true/\isA n=true/\Sep E (aaa A S++L) w',⟨_,rfl,ld h 0 rfl rfl rfl (use (adG h (q:=1) rfl) ?_)⟩,?_⟩
 ·rintro _ _ ⟨rfl,rfl⟩
  refine ⟨_,rfl,bifI (fun hd=> ?_) (fun hlv=> ?_)⟩
  ·have hd:Kt.aaf S.tree g=false:=by simpa using hd
   rw [hl0 hd];exact ⟨rfl,h⟩
  ·have hlv:Kt.aaf S.tree g=true:=by simpa using hlv
   refine bLt (fun h0=> ?_) (fun h0=>bGt (fun h9=> ?_) (fun h9=>⟨hlv,?_,h⟩))
   ·rw [hl1 hlv (by unfold isA;rw [decide_eq_false (show ¬ 0<=n by omega)];rfl)];exact ⟨rfl,h⟩
   ·rw [hl1 hlv (by unfold isA;rw [decide_eq_false (show ¬ n<=top by omega),Bool.and_false])];exact ⟨rfl,h⟩
   ·unfold isA;rw [decide_eq_true (show 0<=n by omega),decide_eq_true (show n<=top by omega)];rfl
 rintro _ w1 ⟨hlv,hn,h1⟩
 rw [hl2 hlv hn]
 have hlt:=aye (show Kt.aaf S.tree g=true from hlv)
 obtain ⟨k,rfl⟩:∃ k:Nat,g=k:=⟨g.toNat,by omega⟩
 have hkl:k<S.guards.length:=by rw [I.gl];omega
 obtain ⟨x,hx⟩:∃ x,S.guards[k]? =some x:=⟨_,List.getElem?_eq_getElem hkl⟩
 have hg:S.gAt (k:Int)=x:=by unfold Cs.gAt;rw [Int.toNat_natCast,List.getD_eq_getElem?_getD,hx];rfl
 rw [hg]
 obtain ⟨hgn,h2⟩:=acv.open (h1.fr 13 rfl)
 refine ⟨_,rfl,A.gs,h1.cellAt 0 rfl 12,elC aaz.vs3 0 h2 rfl hgn rfl hx (fun b hb _=> ?_)⟩
 have hput:∀ (y:aaz) {w':World},Sep E (rowA A.gs 3 (recs aaz.vs (S.guards.set k y))::(aaa A S++L).eraseIdx 13) w' ->Sep E (aaa A (S.setG (k:Int) y)++L) w':=by
  intro y w' hs
  have hs1:Sep E (acv A.gs (S.guards.set k y)::(aaa A S++L).eraseIdx 13) w':=Sep.pur.2 ⟨by simpa using hgn,hs⟩
  exact hs1.put (q:=13) rfl
 refine bEq (fun e0=> ?_) (fun n0=>bEq (fun e1=> ?_) (fun n1=>bEq (fun e2=> ?_) (fun n2=>bEq (fun e3=> ?_) (fun n3=>bEq (fun e4=> ?_) (fun n4=> ?_)))))
 ·rw [if_pos e0]
  refine ⟨_,rfl,stC aaz.vs3 (a':= {x with min:=n}) (j:=0) h2 hb hx (by decide) rfl (fun w2 h3=>⟨rfl,hput _ h3⟩)⟩
 ·rw [if_neg n0,if_pos e1]
  refine ⟨_,rfl,stC aaz.vs3 (a':= {x with low:=n}) (j:=1) h2 hb hx (by decide) rfl (fun w2 h3=>⟨rfl,hput _ h3⟩)⟩
 ·rw [if_neg n0,if_neg n1,if_pos e2]
  refine ⟨_,rfl,ld h1 0 rfl rfl rfl (use (awn (h1.fr 4 rfl) (k:Int) n) ?_)⟩
  rintro _ w2 ⟨rfl,h3⟩
  have h3:=h3.put (q:=4) rfl
  exact ⟨_,rfl,rfl,h3⟩
 ·rw [if_neg n0,if_neg n1,if_neg n2,if_pos e3]
  refine ⟨_,rfl,ld h1 0 rfl rfl rfl (use (awn (h1.fr 7 rfl) (k:Int) n) ?_)⟩
  rintro _ w2 ⟨rfl,h3⟩
  have h3:=h3.put (q:=7) rfl
  exact ⟨_,rfl,rfl,h3⟩
 ·rw [if_neg n0,if_neg n1,if_neg n2,if_neg n3,if_pos e4]
  refine bGt (fun hg1=> ?_) (fun hg1=> ?_)
  ·rw [if_pos hg1];exact ⟨rfl,h1⟩
  ·rw [if_neg (by omega)]
   refine ⟨_,rfl,stC aaz.vs3 (a':= {x with whole:=n==1}) (j:=2) h2 hb hx (by decide) rfl (fun w2 h3=>⟨rfl,hput _ h3⟩)⟩
 ·rw [if_neg n0,if_neg n1,if_neg n2,if_neg n3,if_neg n4]
  exact ⟨rfl,h1⟩
theorem aDN:slQ P 117=some (24,3,[.int .i64 0,.int .i64 0,.bool false]):=by kernel_rfl
theorem aEi {s:Sl} {q:Nat} {l:List aaz} {x:aaz} (hn:s.n=l.length) (hb:l.length<1000000) (h:Sep E (blk q (aaz.vs x)::rowA s 3 (recs aaz.vs l)::L) w) {G:Sl ->World ->Prop}
  (g:∀ s' w1,Sep E (acv s' (l++ [x])::L) w1 ->G s' w1):
  ∃ x1:Sl,∃ w1,Sem.run P (Builtin.append_ #[117,117] 117 #[.slice s.p s.n s.c,.slice (some ⟨q,0,none⟩) 1 1]) w= .ok (.slice x1.p x1.n x1.c) w1/\G x1 w1:=by
 have hs:=Src.blk (n:=1) (c:=1) h (i:=0) rfl aDN rfl (fun u hu=>by simp [aaz.vs] at hu;rcases hu with rfl | rfl | rfl<;>rfl)
 refine rowA.append h.swap aDN rfl hs (by omega) (by rw [hn];omega) (fun s' w1 hs' h1=> ?_)
 refine g s' w1 (Sep.pur.2 ⟨by rw [hs',hn];simp,?_⟩)
 rw [akB,apB]
 exact (h1.fr 0 rfl).ro 2 [0] rfl
def amZ (A:At) (row:List Value) (tr gu up:Asn) (S:Cs):List Asn:=
 [blk A.c row,tr,abb A.fp S.fr.pool,BSt A.fb S.fr.pool.length S.fr.by_,cntA A.fu S.fr.used,abb A.sp S.sl.pool,BSt A.sb S.sl.pool.length S.sl.by_,cntA A.su S.sl.used,
  acC A.fi S.files,Gp.Lst A.ge S.gens,logA A.lg S.log,Tp.Tab A.pg S.pages,ajo A.m S.kept,gu,up,tabA A.o]
theorem ajb {p:Int} (I:Kc.Inv S) (h:Sep E (aaa A S++L) w):Calls P abW #[.pointer (some ⟨A.c,0,none⟩),.int .i64 p] w
  (Ret fun v w'=>v= .tuple #[.int .i64 (S.addGroup p).2.1,.int .i64 (S.addGroup p).2.2]/\∃ gs us:Sl,Sep E (aaa {A with gs:=gs,us:=us} (S.addGroup p).1++L) w'):=by
 apply aom
 refine ⟨_,rfl,ld h 0 rfl rfl rfl (use (aD2 I.wf (h.fr 1 rfl)) ?_)⟩
 rintro _ w1 ⟨rfl,h1⟩
 have h1:=h1.put (q:=1) rfl
 obtain ⟨r,hr⟩:∃ r,Kt.addI S.tree p=r:=⟨_,rfl⟩
 rw [hr] at h1 ⊢
 refine ⟨_,_,rfl,bEq (fun e0=> ?_) (fun n0=> ?_)⟩
 ·have e:S.addGroup p=({S with tree:=r.1,guards:=S.guards++ [⟨0,0,false⟩]},r.2):=by unfold Cs.addGroup;rw [hr];dsimp only;rw [if_pos e0]
  rw [e]
  have htr:r.1=S.tree++ [⟨p,true⟩]:=by
   rw [<- hr] at e0 ⊢
   unfold Kt.addI at e0 ⊢
   split at e0
   ·exact absurd e0 (by simp)
   ·next c1=>
    rw [if_neg c1]
    split at e0
    ·exact absurd e0 (by simp)
    ·next c2=>
     rw [if_neg c2]
     split at e0
     ·exact absurd e0 (by simp)
     ·next c3=>rw [if_neg c3]
  have hfew:=I.wf.few
  have h1:Sep E (amZ A A.row (aaq A.t r.1) (acv A.gs S.guards) (upA A.us S.tree) S++L) w1:=h1
  refine ⟨_,rfl,A.gs,h1.cellAt 0 rfl 12,Al.i h1 (fun q w2 h2=> ?_)⟩
  obtain ⟨hgn,h3⟩:=acv.open (h2.fr 14 rfl)
  refine aEi (x:=⟨0,0,false⟩) hgn (by rw [I.gl];omega) (h3.fr 1 rfl) (fun gs w3 h4=> ?_)
  have h4:Sep E (acv gs (S.guards++ [⟨0,0,false⟩])::(amZ A A.row (aaq A.t r.1) (acv A.gs S.guards) (upA A.us S.tree) S++L).eraseIdx 13) w3:=h4
  have h5:=h4.put (q:=13) rfl
  have h5:Sep E (amZ A A.row (aaq A.t r.1) (acv gs (S.guards++ [⟨0,0,false⟩])) (upA A.us S.tree) S++L) w3:=h5
  refine ⟨_,rfl,St.i (b:=A.c) (c:=A.row) (o:=12) (L:=(amZ A A.row (aaq A.t r.1) (acv gs (S.guards++ [⟨0,0,false⟩])) (upA A.us S.tree) S++L).eraseIdx 0) h5 (by simp [At.row]) (fun w4 h6=> ?_)⟩
  have h6:Sep E (amZ A ({A with gs:=gs} :At).row (aaq A.t r.1) (acv gs (S.guards++ [⟨0,0,false⟩])) (upA A.us S.tree) S++L) w4:=h6
  refine ⟨_,rfl,A.us,h6.cellAt 0 rfl 13,Al.i h6 (fun q2 w5 h7=> ?_)⟩
  obtain ⟨hun,h8⟩:=upA.open (h7.fr 15 rfl)
  refine amv (x:=p) (by simpa using hun) (by simp;omega) (h8.fr 1 rfl) (fun us w6 hus h9=> ?_)
  have h9:Sep E (upA us r.1::(amZ A ({A with gs:=gs} :At).row (aaq A.t r.1) (acv gs (S.guards++ [⟨0,0,false⟩])) (upA A.us S.tree) S++L).eraseIdx 14) w6:=by
   refine Sep.pur.2 ⟨by rw [hus,htr];simp,?_⟩
   have e9:r.1.map Kt.G.up=S.tree.map Kt.G.up++ [p]:=by rw [htr];simp
   rw [e9]
   exact h9
  have h10:=h9.put (q:=14) rfl
  have h10:Sep E (amZ A ({A with gs:=gs} :At).row (aaq A.t r.1) (acv gs (S.guards++ [⟨0,0,false⟩])) (upA us r.1) S++L) w6:=h10
  refine ⟨_,rfl,St.i (b:=A.c) (c:=({A with gs:=gs} :At).row) (o:=13) (L:=(amZ A ({A with gs:=gs} :At).row (aaq A.t r.1) (acv gs (S.guards++ [⟨0,0,false⟩])) (upA us r.1) S++L).eraseIdx 0) h10 (by simp [At.row]) (fun w7 h11=> ?_)⟩
  exact ⟨rfl,gs,us,h11⟩
 ·have e:S.addGroup p=(S,r.2):=by unfold Cs.addGroup;rw [hr];dsimp only;rw [if_neg n0]
  have hsame:r.1=S.tree:=by
   rw [<- hr] at n0 ⊢
   unfold Kt.addI at n0 ⊢
   split
   ·rfl
   ·next c1=>
    rw [if_neg c1] at n0
    split
    ·rfl
    ·next c2=>
     rw [if_neg c2] at n0
     split
     ·rfl
     ·next c3=>rw [if_neg c3] at n0;exact absurd rfl n0
  rw [e]
  rw [hsame] at h1
  exact ⟨rfl,A.gs,A.us,h1⟩
end Go.Mp
end
section
set_option maxRecDepth 100000
namespace Go.Kc
open Go Go.Kt
theorem aEv {T:TS} {g:Int} :(T.those g).Pairwise (· < ·):=by
 unfold TS.those
 rw [List.pairwise_map]
 exact (List.pairwise_lt_range.filter _).imp (fun {a b} h=>by show (a:Int)<(b:Int);omega)
theorem aux {l:List G} {g:Int} (h:(aby l g).2≠0):(aby l g).1=l:=by
 unfold aby at h ⊢
 split
 ·rfl
 ·next c1=>
  rw [if_neg c1] at h
  split
  ·rfl
  ·next c2=>
   rw [if_neg c2] at h
   split
   ·rfl
   ·next c3=>rw [if_neg c3] at h;exact absurd rfl h
theorem aFL (l:List G) (g:Int):(aby l g).1.map G.up=l.map G.up/\(aby l g).1.length=l.length:=by
 by_cases h:(aby l g).2≠0
 ·rw [aux h];exact ⟨rfl,rfl⟩
 ·have h:(aby l g).2=0:=by omega
  unfold aby at h ⊢
  split at h
  ·exact absurd h (by simp)
  ·next c1=>
   rw [if_neg c1]
   split at h
   ·exact absurd h (by simp)
   ·next c2=>
    rw [if_neg c2]
    split at h
    ·exact absurd h (by simp)
    ·next c3=>
     rw [if_neg c3]
     have hl:aaf l g=true:=by
      cases hl:aaf l g with
      | true=>rfl
      | false=>exact absurd hl c2
     obtain ⟨n,rfl,x,hx,_⟩:=aa7.1 hl
     have hlt:=(List.getElem?_eq_some_iff.1 hx).1
     refine ⟨?_,by simp⟩
     rw [Int.toNat_natCast,hx,List.map_set]
     apply List.ext_getElem?
     intro i
     rw [List.getElem?_set]
     split
     ·next e=>subst e;rw [List.length_map,if_pos hlt,List.getElem?_map,hx];rfl
     ·rfl
end Go.Kc
namespace Go.Mp
open Go Go.Vc Go.Sp Go.Proofs Go.Kc
variable {E:Env} {L:List Asn} {w:World} {A:At} {S:Cs}
theorem aHN (a b:Nat) (w:World):Sem.run P (Instr.index 149 (.agg #[.pointer (some ⟨a,0,none⟩),.pointer (some ⟨b,0,none⟩)]) (.int .i64 0)) w= .ok (.pointer (some ⟨a,0,none⟩)) w:=by kernel_rfl
theorem aGQ (a b:Nat) (w:World):Sem.run P (Instr.index 149 (.agg #[.pointer (some ⟨a,0,none⟩),.pointer (some ⟨b,0,none⟩)]) (.int .i64 1)) w= .ok (.pointer (some ⟨b,0,none⟩)) w:=by kernel_rfl
theorem aDa (T:TS) (l:List Int) (x o:Int):T.ownAll (l++ [x]) o=((T.ownAll l o).own x o).1:=by
 unfold TS.ownAll;rw [List.foldl_append];rfl
theorem ayI {g:Int} (I:Kc.Inv S) (h:Sep E (aaa A S++L) w):Calls P ae3 #[.pointer (some ⟨A.c,0,none⟩),.int .i64 g] w
  (Ret fun v w'=>v= .int .i64 (S.remove g).2/\Sep E (aaa A (S.remove g).1++L) w'):=by
 apply aqr
 obtain ⟨up,hup⟩:∃ up,Kt.ab9 S.tree g=up:=⟨_,rfl⟩
 obtain ⟨r,hr⟩:∃ r,Kt.aby S.tree g=r:=⟨_,rfl⟩
 refine ⟨_,rfl,ld h 0 rfl rfl rfl (use (aAS h (q:=1) rfl) ?_)⟩
 rintro _ _ ⟨rfl,rfl⟩
 rw [hup]
 refine ⟨_,rfl,_,rfl,ld h 0 rfl rfl rfl (use (Go.Mp.c_Remove I.wf (h.fr 1 rfl)) ?_)⟩
 rintro _ w1 ⟨rfl,h1⟩
 have h1:=h1.put (q:=1) rfl
 rw [hr] at h1 ⊢
 refine ⟨_,rfl,bNe (fun hf=> ?_) (fun he=> ?_)⟩
 ·have e:S.remove g=(S,r.2):=by unfold Cs.remove;rw [hr];dsimp only;rw [if_neg hf]
  have hs:r.1=S.tree:=by rw [<- hr] at hf ⊢;exact aux hf
  rw [hs] at h1
  rw [e];exact ⟨rfl,h1⟩
 have hru:=aFL S.tree g
 rw [hr] at hru
 have h1:Sep E (aaa A {S with tree:=r.1} ++L) w1:=by
  have e:upA A.us r.1=upA A.us S.tree:=by unfold upA;rw [hru.1,hru.2]
  unfold aaa
  simp only
  rw [e]
  exact h1
 have e:S.remove g=({S with tree:=r.1,pages:=S.pages.ownAll (S.pages.those g) up,gens:=(ah2 S.gens g up).1,fr:= {S.fr with used:=(aaC S.fr.used [g] (cUse S.fr.used g)).1},sl:= {S.sl with used:=(aaC S.sl.used [g] (cUse S.sl.used g)).1}},0):=by
  unfold Cs.remove;rw [hr,hup];dsimp only;rw [if_pos he]
 rw [e]
 have hfew:Tp.few S.pages 16777216:=fun k hk=>by
  obtain ⟨p,hp⟩:=Option.isSome_iff_exists.1 hk
  have:=I.tab.ids _ _ hp
  have:=I.ids
  omega
 refine ⟨_,rfl,ld h1 0 rfl rfl rfl (use (Tp.aHs g hfew (by decide) (h1.fr 11 rfl)) ?_)⟩
 rintro _ w2 ⟨s,ids,rfl,hids,hs,h2⟩
 have hth:(ids.filter fun x=> !Tp.apl S.pages g x)=S.pages.those g:=by
  refine Gp.aAB (r:=(· < · :Int ->Int ->Prop)) (fun x=>Int.lt_irrefl x) (fun x y z=>Int.lt_trans) (hids.rise.filter _) aEv (fun k=> ?_)
  rw [List.mem_filter,hids.mem,asD I.tab]
  unfold Tp.apl
  cases S.pages.pg k with
  | none=>simp
  | some p=>simp [bne]
 rw [hth] at hs h2
 have h2:=h2.put1 (q:=11) rfl
 have h2:Sep E (aaa A {S with tree:=r.1} ++rowA s 1 (intL (S.pages.those g))::L) w2:=Sep.inn (Q:=aaa A {S with tree:=r.1}) h2
 have hlen:(S.pages.those g).length<=16777216:=by
  rw [<- hth]
  exact Nat.le_trans (List.length_filter_le _ _) (hids.le hfew)
 obtain ⟨O,hO⟩:∃ O,S.pages.those g=O:=⟨_,rfl⟩
 rw [hO] at hs h2 hlen ⊢
 refine ⟨s,rfl,fun x w'=>∃ k:Nat,x=k/\k<=O.length/\Sep E (aaa A {S with tree:=r.1,pages:=S.pages.ownAll (O.take k) up} ++rowA s 1 (intL O)::L) w',fun x _=>(O.length - x).toNat,⟨0,rfl,Nat.zero_le _,h2⟩,?_⟩
 rintro _ _ w3 ⟨k,rfl,hk,h3⟩
 refine bLt (fun hlt=> ?_) (fun hge=> ?_)
 ·have hkl:k<O.length:=by omega
  obtain ⟨x,hx⟩:∃ x,O[k]? =some x:=⟨_,List.getElem?_eq_getElem hkl⟩
  refine (Ints.at_ (q:=16) rfl hs).el h3 k rfl hx ⟨_,rfl,ld h3 0 rfl rfl rfl (use (Tp.aG5 x up (h3.fr 11 rfl)) ?_)⟩
  rintro _ w4 ⟨rfl,h4⟩
  have h4:=h4.put (q:=11) rfl
  rw [aah (by omega)]
  refine ⟨_,rfl,⟨k+1,rfl,hkl,by rw [aaj hx,aDa];exact h4⟩,?_⟩
  show (((O.length:Nat):Int) - ((k+1:Nat):Int)).toNat<(((O.length:Nat):Int) - (k:Int)).toNat
  omega
 have hke:k=O.length:=by omega
 subst hke
 rw [List.take_length] at h3
 have h3:=h3.cut
 refine ⟨_,rfl,ld h3 0 rfl rfl rfl (use (Gp.aH2 I.good g up (by have:=good_len I.good;omega) (h3.fr 9 rfl)) ?_)⟩
 rintro _ w4 ⟨rfl,h4⟩
 have h4:=h4.put (q:=9) rfl
 obtain ⟨T,hT⟩:∃ T:Cs,T= {S with tree:=r.1,pages:=S.pages.ownAll O up,gens:=(ah2 S.gens g up).1} :=⟨_,rfl⟩
 have h4:Sep E (aaa A T++L) w4:=by rw [hT];exact h4
 have hTf:T.fr.used=S.fr.used:=by rw [hT]
 have hTs:T.sl.used=S.sl.used:=by rw [hT]
 obtain ⟨T1,hT1⟩:∃ T1:Cs,T1= {T with fr:= {T.fr with used:=(aaC S.fr.used [g] (cUse S.fr.used g)).1}} :=⟨_,rfl⟩
 obtain ⟨T2,hT2⟩:∃ T2:Cs,T2= {T1 with sl:= {T1.sl with used:=(aaC S.sl.used [g] (cUse S.sl.used g)).1}} :=⟨_,rfl⟩
 refine ⟨_,rfl,Dr.i h4 (fun w5 h5=>⟨_,rfl,ld h5 0 rfl rfl rfl ⟨_,rfl,ld h5 0 rfl rfl rfl ?_⟩⟩)⟩
 refine ⟨fun x w'=>(x=0/\Sep E (aaa A T++L) w')\/(x=1/\Sep E (aaa A T1++L) w')\/(x=2/\Sep E (aaa A T2++L) w'),fun x _=>(2 - x).toNat,.inl ⟨rfl,h5⟩,?_⟩
 rintro _ x w6 (⟨rfl,h6⟩ | ⟨rfl,h6⟩ | ⟨rfl,h6⟩)
 ·refine bT (by decide) ⟨some ⟨A.fu,0,none⟩,w6,aHN _ _ _,Al.i h6 (fun q w7 h7=> ?_)⟩
  have h7:Sep E (aaa A T++blk q (intL [g])::L) w7:=Sep.inn h7
  refine use (aAw h7 (q:=4) rfl g) ?_
  rintro _ w8 ⟨rfl,h8⟩
  refine ⟨_,rfl,use (awl (s:=⟨some ⟨q,0,none⟩,1,1⟩) (l:= [g]) ((Ints.blk_ (L:=blk q (intL [g])::L) (b:=q) (c:=1) (gs:= [g]) (q:=0) rfl).er (A:=A) (S:=T) (q:=4) (by decide)) (by simp) _ (h8.fr 4 rfl)) ?_⟩
  rintro _ w9 ⟨rfl,h9⟩
  have h9:=h9.put (q:=4) rfl
  have h9:Sep E (aaa A T1++blk q (intL [g])::L) w9:=by rw [hT1,<- hTf];exact h9
  exact ⟨_,rfl,.inr (.inl ⟨by decide,h9.cut⟩),show ((2:Int) - IntKind.i64.wrap (0+1)).toNat<((2:Int) - 0).toNat by decide⟩
 ·refine bT (by decide) ⟨some ⟨A.su,0,none⟩,w6,aGQ _ _ _,Al.i h6 (fun q w7 h7=> ?_)⟩
  have h7:Sep E (aaa A T1++blk q (intL [g])::L) w7:=Sep.inn h7
  refine use (aAw h7 (q:=7) rfl g) ?_
  rintro _ w8 ⟨rfl,h8⟩
  refine ⟨_,rfl,use (awl (s:=⟨some ⟨q,0,none⟩,1,1⟩) (l:= [g]) ((Ints.blk_ (L:=blk q (intL [g])::L) (b:=q) (c:=1) (gs:= [g]) (q:=0) rfl).er (A:=A) (S:=T1) (q:=7) (by decide)) (by simp) _ (h8.fr 7 rfl)) ?_⟩
  rintro _ w9 ⟨rfl,h9⟩
  have h9:=h9.put (q:=7) rfl
  have hTs1:T1.sl.used=S.sl.used:=by rw [hT1];exact hTs
  have h9:Sep E (aaa A T2++blk q (intL [g])::L) w9:=by rw [hT2,<- hTs1];exact h9
  exact ⟨_,rfl,.inr (.inr ⟨by decide,h9.cut⟩),show ((2:Int) - IntKind.i64.wrap (1+1)).toNat<((2:Int) - 1).toNat by decide⟩
 ·refine bF (by decide) ⟨rfl,?_⟩
  have:T2= {S with tree:=r.1,pages:=S.pages.ownAll O up,gens:=(ah2 S.gens g up).1,fr:= {S.fr with used:=(aaC S.fr.used [g] (cUse S.fr.used g)).1},sl:= {S.sl with used:=(aaC S.sl.used [g] (cUse S.sl.used g)).1}} :=by
   rw [hT2,hT1,hT]
  rw [this] at h6
  exact h6
end Go.Mp
end
section
set_option maxRecDepth 100000
namespace Go.Kc
open Go Go.Kt
variable {S:Cs}
theorem auq (t:Int) (gs:List Int):∀ (n:Nat) (S:Cs),evictN t gs (n+1) S=(((evictN t gs n S).1.evictG t gs false).1,(evictN t gs n S).2+if ((evictN t gs n S).1.evictG t gs false).2 then 1 else 0)
 | 0,S=>Prod.ext rfl ((Int.add_zero _).trans (Int.zero_add _).symm)
 | n+1,S=>by
  have ih:=auq t gs n (S.evictG t gs false).1
  rw [evictN,ih,evictN]
  rw [Prod.mk.injEq]
  exact ⟨rfl,(Int.add_assoc _ _ _).symm⟩
theorem alX (t:Int) (gs:List Int):∀ (n:Nat) (S:Cs),0<=(evictN t gs n S).2/\(evictN t gs n S).2<=n
 | 0,S=>by simp [evictN]
 | n+1,S=>by
  have:=alX t gs n (S.evictG t gs false).1
  rw [evictN];dsimp only
  split<;>omega
theorem apS (t:Int):∀ (l:List (Int×Int)) (g k:Int) (S:Cs),shareOut t (l++ [(g,k)]) S=((evictN t [g] k.toNat (shareOut t l S).1).1,(shareOut t l S).2+(evictN t [g] k.toNat (shareOut t l S).1).2)
 | [],g,k,S=>by simp [shareOut]
 | (x,y)::l,g,k,S=>by
  rw [List.cons_append,shareOut,apS t l g k,shareOut]
  rw [Prod.mk.injEq]
  exact ⟨rfl,(Int.add_assoc _ _ _).symm⟩
theorem asz (t:Int):∀ (l:List (Int×Int)) (S:Cs),(∀ x∈l,0<=x.2/\x.2<=16777217) ->0<=(shareOut t l S).2/\(shareOut t l S).2<=l.length*16777217
 | [],S,_=>by simp [shareOut]
 | (x,y)::l,S,h=>by
  have h1:=h _ (List.mem_cons_self ..)
  have h2:=asz t l (evictN t [x] y.toNat S).1 (fun z hz=>h z (List.mem_cons_of_mem _ hz))
  have h3:=alX t [x] y.toNat S
  rw [shareOut]
  simp only [List.length_cons] at h1 ⊢
  omega
theorem aFi {n:Int} {l:List Int} (hr:ace n l=true) {i:Nat} {x:Int} (hx:l[i]? =some x):∃ p,(ab3 n l)[i]? =some p/\0<=p/\p<=x:=by
 have hall:=(ahH hr).2.2
 have hx0:=(hall x (List.mem_of_getElem? hx)).1
 by_cases h:n<=0\/sumI l=0
 ·have hlt:=(List.getElem?_eq_some_iff.1 hx).1
  refine ⟨0,?_,Int.le_refl _,hx0⟩
  rw [anH hr h,List.getElem?_replicate,if_pos hlt]
 ·have hs:0<sumI l:=by have:=acy (l:=l) (fun y hy=>(hall y hy).1);omega
  obtain ⟨p,_,h2,h3,h4⟩:=aiL hr hs hx
  exact ⟨_,by rw [<- amP hr hs (by omega)];exact h2,h3,h4⟩
theorem aEc {n:Int} {l:List Int} (hr:ace n l=true):(ab3 n l).length=l.length:=by
 unfold ab3
 rw [if_neg (by rw [hr];decide)]
 split
 ·simp
 ·split
  ·rfl
  ·exact ac0 hr
theorem aFu (G:Good S.gens) (g:Int):0<=ajm S.gens g/\ajm S.gens g<=16777217:=by
 have h1:=Go.Mp.good_len G
 have h2:0<=ajm S.gens g/\ajm S.gens g<=(S.gens.length:Nat):=by
  unfold ajm
  refine ⟨by omega,?_⟩
  have:=List.length_filter_le (fun e:Ent=>e.group==g) S.gens
  omega
 omega
end Go.Kc
end
section
set_option maxRecDepth 100000
namespace Go.Mp
open Go Go.Vc Go.Sp Go.Proofs Go.Kc
variable {E:Env} {L:List Asn} {w:World} {A:At} {S:Cs}
theorem aD0 {l:List Kt.G} {t g:Int} (h:g∈Kt.abe l t):Kt.aaf l g=true:=by
 unfold Kt.abe at h
 split at h
 ·unfold Kt.ahP at h
  obtain ⟨i,hi,rfl⟩:=List.mem_map.1 h
  rw [List.mem_filter,Bool.and_eq_true] at hi
  exact hi.2.1
 ·cases h
theorem Ints.one {s:Sl} {gs:List Int} {q k:Nat} {g:Int} (hq:L[q]? =some (rowA s 1 (intL gs))) (hn:s.n=gs.length) (hg:gs[k]? =some g) (n c:Nat) (h1:n=1):Ints E L ⟨slA s.p k s.c 1,n,c⟩ [g]:=by
 subst h1
 refine ⟨rfl,fun w h i x hx=> ?_⟩
 have hk:=(List.getElem?_eq_some_iff.1 hg).1
 match i,hx with
 | 0,hx=>
  simp at hx
  subst hx
  obtain ⟨b,spare,hp,h1,h2,h3,h4⟩:=rowA.get_ (h.fr q hq) (by omega)
  have hl:(intL gs).length=gs.length:=by simp
  refine ⟨⟨b,k,none⟩,?_,?_⟩
  ·unfold slA
   rw [if_neg (by omega),hp]
   show some _=some _
   congr 1
   show (⟨b,0,none⟩:Addr).add (k*1)=_
   rw [aad];congr 1;omega
  ·rw [aad,Nat.add_zero,rowA.cell h4 (by omega),api,hg];rfl
 | i+1,hx=>simp at hx
theorem apd {t n:Int} (I:Kc.Inv S) (h:Sep E (aaa A S++L) w):Calls P acU #[.pointer (some ⟨A.c,0,none⟩),.int .i64 t,.int .i64 n] w
  (Ret fun v w'=>v= .int .i64 (S.shrink t n).2/\Sep E (aaa A (S.shrink t n).1++L) w'):=by
 apply aqs
 have hfew:S.guards.length<=64:=by rw [I.gl];exact I.wf.few
 have hno:(S.live t=false\/n<1\/1000<n) ->S.shrink t n=(S,0):=by intro hc;unfold Cs.shrink;rw [if_pos hc]
 refine ⟨fun w'=>S.live t=true/\1<=n/\n<=1000/\Sep E (aaa A S++L) w',⟨_,rfl,ld h 0 rfl rfl rfl (use (adG h (q:=1) rfl) ?_)⟩,?_⟩
 ·rintro _ _ ⟨rfl,rfl⟩
  refine ⟨_,rfl,bifI (fun hd=> ?_) (fun hlv=> ?_)⟩
  ·have hd:Kt.aaf S.tree t=false:=by simpa using hd
   rw [hno (.inl hd)];exact ⟨rfl,h⟩
  ·have hlv:Kt.aaf S.tree t=true:=by simpa using hlv
   refine bLt (fun h0=> ?_) (fun h0=>bGt (fun h9=> ?_) (fun h9=>⟨hlv,by omega,by omega,h⟩))
   ·rw [hno (.inr (.inl h0))];exact ⟨rfl,h⟩
   ·rw [hno (.inr (.inr h9))];exact ⟨rfl,h⟩
 rintro _ w1 ⟨hlv,hn1,hn2,h1⟩
 obtain ⟨In,hIn⟩:∃ In,Kt.abe S.tree t=In:=⟨_,rfl⟩
 obtain ⟨mn,hmn⟩:∃ mn,S.held t aaz.min=mn:=⟨_,rfl⟩
 obtain ⟨lw,hlw⟩:∃ lw,S.held t aaz.low=lw:=⟨_,rfl⟩
 have hml:mn.length=S.guards.length:=by rw [<- hmn];exact aiq _ _
 have hll:lw.length=S.guards.length:=by rw [<- hlw];exact aiq _ _
 have hIl:In.length<=64:=by rw [<- hIn];exact apa I.wf t
 have hIlt:∀ g∈In,0<=g/\g<S.guards.length:=fun g hg=>by rw [I.gl];exact aye (aD0 (by rw [hIn];exact hg))
 refine ⟨_,rfl,ld h1 0 rfl rfl rfl (use (asS I.wf (h1.fr 1 rfl)) ?_)⟩
 rintro _ w2 ⟨si,rfl,hsi,h2⟩
 rw [hIn] at hsi h2
 have h2:=h2.put1 (q:=1) rfl
 have h2:Sep E (aaa A S++rowA si 1 (intL In)::L) w2:=Sep.inn (Q:=aaa A S) h2
 refine ⟨si,rfl,use (awp aBX I.gl hfew I.mem_lt h2) ?_⟩
 rintro _ w3 ⟨sm,rfl,hsm,h3⟩
 rw [hmn] at hsm h3
 refine ⟨sm,rfl,use (awp aBW I.gl hfew I.mem_lt h3) ?_⟩
 rintro _ w4 ⟨sl,rfl,hsl,h4⟩
 rw [hlw] at hsl h4
 refine ⟨sl,rfl,aeU (n:=si.n) (by omega) h4 (fun sw w5 hsw h5=> ?_)⟩
 rw [hsi] at hsw h5
 have h5:Sep E (aaa A S++rowA sw 1 (intL (List.replicate In.length 0))::rowA sl 1 (aak lw)::rowA sm 1 (aak mn)::rowA si 1 (intL In)::L) w5:=Sep.inn (Q:=aaa A S) h5
 obtain ⟨W,hW⟩:∃ W,S.weights t=W:=⟨_,rfl⟩
 have hWl:W.length=In.length:=by rw [<- hW,<- hIn];simp [Cs.weights]
 have hWat:∀ (k:Nat) (g:Int),In[k]? =some g ->W[k]? =some (if bAt mn g=false/\bAt lw g=false then ajm S.gens g else 0):=by
  intro k g hg
  rw [<- hW];unfold Cs.weights
  rw [hIn,List.getElem?_map,hg,hmn,hlw];rfl
 have hWok:∀ x∈W,0<=x/\x<=16777217:=by
  intro x hx
  obtain ⟨k,hk⟩:=List.mem_iff_getElem?.1 hx
  have hlt:=(List.getElem?_eq_some_iff.1 hk).1
  obtain ⟨g,hg⟩:∃ g,In[k]? =some g:=⟨_,List.getElem?_eq_getElem (by omega)⟩
  rw [hWat k g hg] at hk
  cases hk
  have:=aFu I.good g
  split<;>omega
 obtain ⟨Z,hZ⟩:∃ Z:Nat ->List Int,Z=fun k=>W.take k++List.replicate (In.length - k) 0:=⟨_,rfl⟩
 have hZl:∀ k,k<=In.length ->(Z k).length=In.length:=fun k hk=>by rw [hZ];simp [hWl];omega
 have hZ0:Z 0=List.replicate In.length 0:=by rw [hZ];simp
 have hZe:Z In.length=W:=by rw [hZ];simp only;rw [Nat.sub_self,<- hWl,List.take_length];simp
 have hZs:∀ (k:Nat) (x:Int),W[k]? =some x ->k<In.length ->(Z k).set k x=Z (k+1):=by
  intro k x hx hk
  rw [hZ];simp only
  rw [aaj hx,List.set_append_right k _ (by simp;omega),List.append_assoc]
  congr 1
  rw [List.length_take,hWl,Nat.min_eq_left (by omega),Nat.sub_self,show In.length - k=(In.length - (k+1))+1 by omega,List.replicate_succ]
  rfl
 have hZ00:∀ k:Nat,W[k]? =some 0 ->k<In.length ->Z k=Z (k+1):=by
  intro k hx hk
  rw [hZ];simp only
  rw [aaj hx,List.append_assoc]
  congr 1
  rw [show In.length - k=(In.length - (k+1))+1 by omega,List.replicate_succ];rfl
 rw [<- hZ0] at h5
 refine ⟨fun x w'=>∃ k:Nat,x=k/\k<=In.length/\Sep E (aaa A S++rowA sw 1 (intL (Z k))::rowA sl 1 (aak lw)::rowA sm 1 (aak mn)::rowA si 1 (intL In)::L) w',fun x _=>(In.length - x).toNat,⟨0,rfl,Nat.zero_le _,h5⟩,?_⟩
 rintro _ _ w6 ⟨k,rfl,hk,h6⟩
 refine bLt (fun hlt=> ?_) (fun hge=> ?_)
 ·have hkl:k<In.length:=by omega
  obtain ⟨g,hg⟩:∃ g,In[k]? =some g:=⟨_,List.getElem?_eq_getElem hkl⟩
  have hgb:=hIlt g (List.mem_of_getElem? hg)
  have hmea:(((In.length:Nat):Int) - ((k+1:Nat):Int)).toNat<(((In.length:Nat):Int) - (k:Int)).toNat:=by omega
  refine (Ints.at_ (q:=19) rfl hsi).el h6 k rfl hg ?_
  refine ⟨fun b w'=>(b=true↔(bAt mn g=false/\bAt lw g=false))/\Sep E (aaa A S++rowA sw 1 (intL (Z k))::rowA sl 1 (aak lw)::rowA sm 1 (aak mn)::rowA si 1 (intL In)::L) w',
   elB 18 h6 rfl hsm hgb.1 (by omega) (bifI (fun hb=>elB 17 h6 rfl hsl hgb.1 (by omega) ⟨?_,h6⟩) (fun hb=>⟨?_,h6⟩)),?_⟩
  ·have hb:bAt mn g=false:=by simpa using hb
   simp [hb]
  ·have hb:bAt mn g=true:=by simpa using hb
   simp [hb]
  rintro _ b w7 ⟨hb,h7⟩
  refine bifI (fun hbt=> ?_) (fun hbf=> ?_)
  ·refine ⟨_,rfl,ld h7 0 rfl rfl rfl (use (Gp.aHl I.good g (by have:=good_len I.good;omega) (h7.fr 9 rfl)) ?_)⟩
   rintro _ w8 ⟨rfl,h8⟩
   have h8:=h8.put (q:=9) rfl
   have h8:Sep E (aaa A S++rowA sw 1 (intL (Z k))::rowA sl 1 (aak lw)::rowA sm 1 (aak mn)::rowA si 1 (intL In)::L) w8:=h8
   have hx:=hWat k g hg
   rw [if_pos (hb.1 hbt)] at hx
   refine ⟨_,rfl,elSt (h8.fr 16 rfl) (by rw [hZl k hk];exact hsw) (by omega) (by rw [hZl k hk];omega) (fun w9 h9=> ?_)⟩
   rw [Int.toNat_natCast,hZs k _ hx hkl] at h9
   have h9:=h9.put (q:=16) rfl
   rw [aah (by omega)]
   exact ⟨⟨k+1,rfl,hkl,h9⟩,hmea⟩
  ·have hx:=hWat k g hg
   rw [if_neg (by rw [<- hb,hbf];decide)] at hx
   rw [hZ00 k hx hkl] at h7
   rw [aah (by omega)]
   exact ⟨⟨k+1,rfl,hkl,h7⟩,hmea⟩
 have hke:k=In.length:=by omega
 subst hke
 rw [hZe] at h6
 have hright:ace n W=true:=by
  unfold ace
  rw [decide_eq_true (show 0<=n by omega),decide_eq_true (show n<=1048576 by omega),decide_eq_true (show W.length<=64 by omega)]
  refine List.all_eq_true.2 (fun x hx=> ?_)
  have:=hWok x hx
  have:=ag7
  rw [decide_eq_true (show 0<=x by omega),decide_eq_true (show x<=top by omega)];rfl
 refine use (aGj (by omega) (by omega) (h6.fr 16 rfl)) ?_
 rintro _ w7 ⟨se,rfl,hse,h7⟩
 have h7:=h7.put1 (q:=16) rfl
 have h7:Sep E (aaa A S++rowA se 1 (intL (ab3 n W))::rowA sw 1 (intL W)::rowA sl 1 (aak lw)::rowA sm 1 (aak mn)::rowA si 1 (intL In)::L) w7:=Sep.inn (Q:=aaa A S) h7
 obtain ⟨C,hC⟩:∃ C,ab3 n W=C:=⟨_,rfl⟩
 have hCl:C.length=In.length:=by rw [<- hC,aEc hright,hWl]
 have hCok:∀ (k:Nat) (p:Int),C[k]? =some p ->0<=p/\p<=16777217:=by
  intro k p hp
  have hlt:=(List.getElem?_eq_some_iff.1 hp).1
  obtain ⟨x,hx⟩:∃ x,W[k]? =some x:=⟨_,List.getElem?_eq_getElem (by omega)⟩
  obtain ⟨p',hp',h8,h9⟩:=aFi hright hx
  rw [hC,hp] at hp'
  cases hp'
  have:=hWok x (List.mem_of_getElem? hx)
  omega
 rw [hC] at h7 hse
 obtain ⟨LL,hLL⟩:∃ LL,LL=rowA se 1 (intL C)::rowA sw 1 (intL W)::rowA sl 1 (aak lw)::rowA sm 1 (aak mn)::rowA si 1 (intL In)::L:=⟨_,rfl⟩
 have hIe:Ints E LL se C:=by rw [hLL];exact Ints.row hse
 have hcut:∀ {T:Cs} {w:World},Sep E (aaa A T++LL) w ->Sep E (aaa A T++L) w:=fun hs=>by rw [hLL] at hs;exact hs.cut.cut.cut.cut.cut
 have hcap:∀ {T:Cs} {w:World},Sep E (aaa A T++LL) w ->si.n<=si.c:=fun hs=>by rw [hLL] at hs;exact rowA.cap (hs.fr 20 rfl)
 have hIi:∀ (k:Nat) (g:Int) (m c:Nat),In[k]? =some g ->m=1 ->Ints E LL ⟨slA si.p k si.c 1,m,c⟩ [g]:=fun k g m c hg hm=>Ints.one (q:=4) (by rw [hLL];rfl) hsi hg m c hm
 have h7:Sep E (aaa A S++LL) w7:=by rw [hLL];exact h7
 clear hLL
 obtain ⟨Q,hQ⟩:∃ Q,In.zip C=Q:=⟨_,rfl⟩
 have hQl:Q.length=In.length:=by rw [<- hQ,List.length_zip,hCl,Nat.min_self]
 have hQok:∀ x∈Q,0<=x.2/\x.2<=16777217:=by
  intro x hx
  rw [<- hQ] at hx
  obtain ⟨k,hk⟩:=List.mem_iff_getElem?.1 (List.of_mem_zip hx).2
  exact hCok k _ hk
 have efin:S.shrink t n=((evictM t (n - (shareOut t Q S).2).toNat (shareOut t Q S).1).1,(shareOut t Q S).2+(evictM t (n - (shareOut t Q S).2).toNat (shareOut t Q S).1).2):=by
  unfold Cs.shrink
  rw [if_neg (by rw [hlv];simp;omega),hIn,hW,hC,hQ]
 rw [efin]
 have hcnt:=fun k=>asz t (Q.take k) S (fun x hx=>hQok x (List.mem_of_mem_take hx))
 refine ⟨se,rfl,fun went x w'=>∃ k:Nat,x=k/\k<=C.length/\went=(shareOut t (Q.take k) S).2/\Sep E (aaa A (shareOut t (Q.take k) S).1++LL) w',fun _ x _=>(C.length - x).toNat,⟨0,rfl,Nat.zero_le _,rfl,h7⟩,?_⟩
 rintro _ _ _ w8 ⟨k,rfl,hk,rfl,h8⟩
 refine bLt (fun hlt=> ?_) (fun hge=> ?_)
 ·have hkl:k<C.length:=by omega
  obtain ⟨p,hp⟩:∃ p,C[k]? =some p:=⟨_,List.getElem?_eq_getElem hkl⟩
  obtain ⟨g,hg⟩:∃ g,In[k]? =some g:=⟨_,List.getElem?_eq_getElem (by omega)⟩
  have hpok:=hCok k p hp
  have hqk:Q[k]? =some (g,p):=by rw [<- hQ,List.getElem?_zip_eq_some];exact ⟨hg,hp⟩
  have hsn:=apS t (Q.take k) g p S
  rw [<- aaj hqk] at hsn
  have hIT:Kc.Inv (shareOut t (Q.take k) S).1:=Inv.shareOut _ I
  have hc:=hcnt k
  have hcl:(Q.take k).length<=64:=by rw [List.length_take];omega
  obtain ⟨T,hT⟩:∃ T,shareOut t (Q.take k) S=T:=⟨_,rfl⟩
  rw [hT] at hsn hIT h8 hc ⊢
  refine hIe.pre.el h8 k rfl hp ?_
  refine ⟨fun went x w'=>∃ j:Nat,x=j/\(j:Int)<=p/\went=T.2+(evictN t [g] j T.1).2/\Sep E (aaa A (evictN t [g] j T.1).1++LL) w',fun _ x _=>(p - x).toNat,⟨0,rfl,by omega,(Int.add_zero _).symm,h8⟩,?_⟩
  rintro _ _ _ w9 ⟨j,rfl,hj,rfl,h9⟩
  have hcj:=alX t [g] j T.1
  refine bLt (fun hjp=> ?_) (fun hjp=> ?_)
  ·have hcp:=hcap h9
   have hIN:Kc.Inv (evictN t [g] j T.1).1:=Inv.evictN _ hIT
   rw [aah (k:=k) (by omega)]
   refine ⟨⟨by omega,by omega⟩,⟨by omega,by omega⟩,use (aDo hIN (t:=t) (all:=false) (sg:=⟨slA si.p ((k:Nat):Int).toNat si.c 1,(((k+1:Nat):Int)).toNat - ((k:Nat):Int).toNat,si.c - ((k:Nat):Int).toNat⟩) (gs:= [g]) ?_ (by simp) h9) ?_⟩
   ·rw [Int.toNat_natCast]
    exact hIi k g _ _ hg (by omega)
   rintro _ w10 ⟨rfl,h10⟩
   have hs2:=auq t [g] j T.1
   have hmea:(p - ((j+1:Nat):Int)).toNat<(p - (j:Int)).toNat:=by omega
   refine ⟨_,rfl,bifI (fun hr=> ?_) (fun hr=> ?_)⟩
   ·rw [hr,if_pos rfl] at hs2
    rw [aah (by omega),w64 (by omega) (by omega)]
    exact ⟨⟨j+1,rfl,by omega,by rw [hs2,Int.add_assoc],by rw [hs2];exact h10⟩,hmea⟩
   ·rw [hr] at hs2
    rw [aah (by omega)]
    exact ⟨⟨j+1,rfl,by omega,by rw [hs2];simp,by rw [hs2];exact h10⟩,hmea⟩
  ·have hjp:p.toNat=j:=by omega
   rw [hjp] at hsn
   rw [aah (by omega)]
   refine ⟨⟨k+1,rfl,hkl,by rw [hsn],by rw [hsn];exact h9⟩,?_⟩
   show (((C.length:Nat):Int) - ((k+1:Nat):Int)).toNat<(((C.length:Nat):Int) - (k:Int)).toNat
   omega
 have hke:k=Q.length:=by omega
 have hcQ:=hcnt k
 rw [hke,List.take_length] at h8 hcQ ⊢
 have hIT:Kc.Inv (shareOut t Q S).1:=Inv.shareOut _ I
 obtain ⟨T,hT⟩:∃ T,shareOut t Q S=T:=⟨_,rfl⟩
 rw [hT] at h8 hIT hcQ ⊢
 refine ⟨fun went w'=>∃ U:Cs,Kc.Inv U/\T.2<=went/\(T.2<went ->went<=n)/\evictM t (n - T.2).toNat T.1=((evictM t (n - went).toNat U).1,(went - T.2)+(evictM t (n - went).toNat U).2)/\Sep E (aaa A U++LL) w',fun went _=>(n - went).toNat,⟨T.1,hIT,Int.le_refl _,fun hh=>absurd hh (by omega),Prod.ext rfl (by simp),h8⟩,?_⟩
 rintro _ went w9 ⟨U,hU,hle,hle2,he,h9⟩
 refine bLt (fun hlt=> ?_) (fun hge=> ?_)
 ·obtain ⟨m,hm⟩:∃ m,(n - went).toNat=m+1:=⟨(n - went).toNat - 1,by omega⟩
  rw [hm] at he
  have hm1:(n - (went+1)).toNat=m:=by omega
  refine use (aob hU (t:=t) h9) ?_
  rintro _ w10 ⟨rfl,h10⟩
  refine ⟨_,rfl,bifI (fun hr=> ?_) (fun hr=> ?_)⟩
  ·have e1:evictM t (m+1) U=((evictM t m (U.evict t).1).1,1+(evictM t m (U.evict t).1).2):=by rw [evictM];rw [if_pos hr]
   rw [w64 (by omega) (by omega)]
   refine ⟨⟨(U.evict t).1,hU.evict t,by omega,fun _=>by omega,?_,h10⟩,by show (n - (went+1)).toNat<(n - went).toNat;omega⟩
   rw [he,hm1,e1]
   refine Prod.ext rfl ?_
   show went - T.2+(1+_)=went+1 - T.2+_
   omega
  ·have e1:evictM t (m+1) U=((U.evict t).1,0):=by rw [evictM];rw [if_neg (by rw [hr];decide)]
   rw [he,e1]
   exact ⟨by show Value.int .i64 went=Value.int .i64 (T.2+(went - T.2+0));congr 1;omega,hcut h10⟩
 ·have hm:(n - went).toNat=0:=by omega
  rw [hm] at he
  rw [he]
  exact ⟨by show Value.int .i64 went=Value.int .i64 (T.2+(went - T.2+0));congr 1;omega,hcut h9⟩
end Go.Mp
end
section
set_option maxRecDepth 100000
namespace Go.Mp
open Go Go.Vc Go.Sp Go.Proofs
variable {E:Env} {L:List Asn} {w W:World}
noncomputable def opsC:Array Oper:=((Tryz.f16.body.bind (asf 1)).getD #[])
def aIL:Oper:= {dst:=none,op:= .assign (.const (.pointer none)),type:=0,pos:= "",after:= #[],guard:=none}
noncomputable def opC (i:Nat):Oper:=(opsC[i]?).getD aIL
def aeM:Ann:= {fork:=fun r=>Nat.beq r 1}
noncomputable def T0C (fr sl:Int) (sz:Sl):Tr:=(afs [.int .i64 fr,.int .i64 sl,.slice sz.p sz.n sz.c] 0 .nil).put (some 6) (.pointer none)
def QFC (K:Value ->World ->Prop):Exit ->Tr ->World ->Prop:=aiw (vc P tau rho pan aeM 998 .ret (vRet P tau [.tmp 6] K (fun _ _=>False))) (vRet P tau [.tmp 6] K (fun _ _=>False))
theorem aHR {P:Program} {τ:TypeId ->K1} {ρ:TypeId ->Kd} {pan:FuncId ->Bool} {A:Ann} {n i j:Nat} {ops0 ops:Array Oper} {Q:Exit ->Tr ->World ->Prop} {T:Tr} {w:World} (h1:A.join j=none) (h2:A.sig j=none) (h3:A.fork j=true):
  vc P τ ρ pan A (n+3) (.seq (.region i ops0 false) (.seq (.region j ops true) .ret)) Q T w=
   vOps P τ ρ pan A ops0 (aiw (fun T w=>Dr (fun w'=>vAny P τ ρ pan A ops (aiw (vc P τ ρ pan A (n+1) .ret Q) Q) ops.size (Array.replicate ops.size false) T w') w) Q) ops0.toList T w:=by
 have e1:arB A (.seq (.region j ops true) .ret)=none:=by simp [arB,acg,h1]
 have e2:arB A .ret=none:=rfl
 have e3:∀ T w,vc P τ ρ pan A (n+2) (.seq (.region j ops true) .ret) Q T w=Dr (fun w'=>vAny P τ ρ pan A ops (aiw (vc P τ ρ pan A (n+1) .ret Q) Q) ops.size (Array.replicate ops.size false) T w') w:=by
  intro T w
  rw [vc]
  simp only [e2]
  rw [vc]
  unfold aoJ
  simp only [h2,h3,cond_true]
 rw [vc]
 simp only [e1]
 rw [vc]
 unfold aoJ
 dsimp only
 have e4:vc P τ ρ pan A (n+2) (.seq (.region j ops true) .ret) Q=fun T w=>Dr (fun w'=>vAny P τ ρ pan A ops (aiw (vc P τ ρ pan A (n+1) .ret Q) Q) ops.size (Array.replicate ops.size false) T w') w:=by
  funext T w;exact e3 T w
 rw [e4]
noncomputable def aEp:Array Oper:=((Tryz.f16.body.bind (asf 0)).getD #[])
theorem azg:Tryz.f16.body=some (.seq (.region 0 aEp false) (.seq (.region 1 opsC true) .ret)):=by kernel_rfl
theorem aB1:Tryz.f16.results= #[.tmp 6]:=by kernel_rfl
theorem ayv (next:Tr ->World ->Prop) (Q:Exit ->Tr ->World ->Prop) (T:Tr) (w:World):vOps P tau rho pan aeM aEp (aiw next Q) aEp.toList T w=next (T.put (some 6) (.pointer none)) w:=by kernel_rfl
theorem aDf (fr sl:Int) (sz:Sl) (K:Value ->World ->Prop) (w:World):
  vcFn P tau rho pan aeM Tryz.f16 #[.int .i64 fr,.int .i64 sl,.slice sz.p sz.n sz.c] K (fun _ _=>False) w=Dr (fun w'=>vAny P tau rho pan aeM opsC (QFC K) opsC.size (Array.replicate opsC.size false) (T0C fr sl sz) w') w:=by
 unfold vcFn
 rw [azg,aB1]
 dsimp only
 rw [show (1000:Nat)=997+3 from rfl,aHR rfl rfl rfl,ayv]
 rfl
theorem aC9:okFn P aeM Tryz.f16 3=true:=by kernel_rfl
theorem aBV:ownB opsC=true:=by decide+kernel
theorem ag0:opsC.size=16:=by kernel_rfl
theorem aBs (K:Value ->World ->Prop) (T:Tr) (w:World):QFC K .normal T w=K (T.get 6) w:=by kernel_rfl
variable (T:Tr) (next:Tr ->World ->Prop) (Q:Exit ->Tr ->World ->Prop)
abbrev vopC (i:Nat):=vOp P tau rho pan aeM (opC i) T w next Q
theorem opC0:vopC (w:=w) T next Q 0=Calls P akz #[] w fun e w'=>∃ p:Option Addr,e= .returned (.pointer p)/\next (T.put (some 7) (.pointer p)) w':=by kernel_rfl
theorem opC1:vopC (w:=w) T next Q 1=next (T.put (some 8) (T.get 0)) w:=by kernel_rfl
theorem opC2:vopC (w:=w) T next Q 2=Calls P adL #[T.get 8] w fun e w'=>∃ a b c:Option Addr,e= .returned (.agg #[.pointer a,.pointer b,.pointer c])/\next (T.put (some 9) (.agg #[.pointer a,.pointer b,.pointer c])) w':=by kernel_rfl
theorem opC3:vopC (w:=w) T next Q 3=next (T.put (some 10) (T.get 1)) w:=by kernel_rfl
theorem opC4:vopC (w:=w) T next Q 4=Calls P adL #[T.get 10] w fun e w'=>∃ a b c:Option Addr,e= .returned (.agg #[.pointer a,.pointer b,.pointer c])/\next (T.put (some 11) (.agg #[.pointer a,.pointer b,.pointer c])) w':=by kernel_rfl
theorem opC5:vopC (w:=w) T next Q 5=next (T.put (some 12) (T.get 2)) w:=by kernel_rfl
theorem opC6:vopC (w:=w) T next Q 6=Calls P ajh #[T.get 12] w fun e w'=>∃ p:Option Addr,e= .returned (.pointer p)/\next (T.put (some 13) (.pointer p)) w':=by kernel_rfl
theorem opC7:vopC (w:=w) T next Q 7=Calls P aky #[] w fun e w'=>∃ p:Option Addr,e= .returned (.pointer p)/\next (T.put (some 14) (.pointer p)) w':=by kernel_rfl
theorem opC8:vopC (w:=w) T next Q 8=Calls P aiA #[] w fun e w'=>∃ p:Option Addr,e= .returned (.pointer p)/\next (T.put (some 15) (.pointer p)) w':=by kernel_rfl
theorem opC9:vopC (w:=w) T next Q 9=Calls P aji #[] w fun e w'=>∃ p:Option Addr,e= .returned (.pointer p)/\next (T.put (some 16) (.pointer p)) w':=by kernel_rfl
theorem aIF:vopC (w:=w) T next Q 10=AlM (fun q=>next (T.put (some 17) (.map (some q)))) w:=by kernel_rfl
theorem aIG:vopC (w:=w) T next Q 11=∃ x:Sl,∃ w',Sem.run P (Instr.makeSlice 117 (.int .i64 1) (.int .i64 1)) w= .ok (.slice x.p x.n x.c) w'/\next (T.put (some 18) (.slice x.p x.n x.c)) w':=by kernel_rfl
theorem aIH:vopC (w:=w) T next Q 12=Al (.cells #[.int .i64 (-1)] 3) (fun q=>next (T.put (some 19) (.slice (some q) 1 1))) w:=by kernel_rfl
theorem aIJ:vopC (w:=w) T next Q 14=Al (.cells (T.get 20).cells 119) (fun q=>next (T.put (some 21) (.pointer (some q)))) w:=by kernel_rfl
theorem aIK:vopC (w:=w) T next Q 15=next (T.put (some 6) (T.get 21)) w:=by kernel_rfl
end Go.Mp
end
