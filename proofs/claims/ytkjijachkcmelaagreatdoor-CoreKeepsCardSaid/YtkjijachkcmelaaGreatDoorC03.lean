/- Part of a proof about the core: of its walks and plain laws. -/
import Derived.Test.YtkjijachkcmelaaGreatDoorC02
import Derived.RangeFuncIn
import Derived.RangeFuncLeaves
import Derived.RangeFuncRecord
import Derived.RangeFuncCalls
import Derived.RangeFuncSeq
import Derived.Sort.LoopGhostIn
import Derived.OrdersIn
import Derived.Test.YtkjijachkcmelaaGreatDoorProg
import Derived.Test.YtkjijachkcmelaaGreatDoorChecked
set_option linter.all false
section
namespace Go.Kc
open Go Go.Kt Go.Sp
structure Inv0 (S:Cs):Prop where
 wf:WF S.tree
 gl:S.guards.length=S.tree.length
 tab:acp S.pages
 own:∀ id p,S.pages.pg id=some p ->S.live p.owner=true
 fr:aa8 S.pages S.tree S.fr 1
 sl:aa8 S.pages S.tree S.sl 2
 good:Good S.gens
 gen:∀ id g,(∃ e∈S.gens,e.id=id/\e.group=g)↔∃ p,S.pages.pg id=some p/\p.place=1/\p.owner=g
 log:S.log.length=64
 fil:∀ id p,S.pages.pg id=some p ->0<=p.kf ->fHas S.files (p.kf,p.ki)=true/\p.place≠2
 txt:∀ k t,S.files.pages k=some t ->t.length=16
 ids:S.pages.next<=16777216
structure Inv (S:Cs):Prop extends Inv0 S where
 anon:∀ id p,S.pages.pg id=some p ->p.kf<0 ->p.place≠0
variable {R:List Ent}
theorem arz (G:Good R) {id x g:Int} :(∃ e∈(adX R id).1,e.id=x/\e.group=g)↔x≠id/\∃ e∈R,e.id=x/\e.group=g:=by
 unfold adX
 split
 ·constructor
  ·rintro ⟨e,he,rfl,rfl⟩
   rw [List.mem_filter] at he
   exact ⟨by simpa using he.2,e,he.1,rfl,rfl⟩
  ·rintro ⟨hx,e,he,rfl,rfl⟩
   exact ⟨e,List.mem_filter.2 ⟨he,by simpa using hx⟩,rfl,rfl⟩
 ·next hf=>
  have hf:fnd R id=none:=by simpa using hf
  have hn:=(akm G.rise).1 hf
  constructor
  ·rintro ⟨e,he,rfl,rfl⟩;exact ⟨hn e he,e,he,rfl,rfl⟩
  ·rintro ⟨_,h⟩;exact h
theorem aBy {id:Int} (h:(fnd R id).isSome=true):(adX R id).1.length<R.length:=by
 unfold adX
 rw [if_pos h]
 obtain ⟨e,he⟩:=Option.isSome_iff_exists.1 h
 have hm:e∈R:=List.mem_of_find?_eq_some he
 have hp:e.id=id:=by simpa using List.find?_some he
 rcases Nat.lt_or_ge (R.filter fun e=>e.id !=id).length R.length with h1 | h1
 ·exact h1
 ·exfalso
  have h2:(R.filter fun e=>e.id !=id).length=R.length:=Nat.le_antisymm (List.length_filter_le _ _) h1
  have h3:=List.length_filter_eq_length_iff.1 h2 e hm
  simp [hp] at h3
theorem aEh {id x g:Int} :(∃ e∈(abZ R id).1,e.id=x/\e.group=g)↔∃ e∈R,e.id=x/\e.group=g:=by
 unfold abZ
 split
 ·constructor
  ·rintro ⟨e,he,rfl,rfl⟩
   obtain ⟨y,hy,rfl⟩:=List.mem_map.1 he
   refine ⟨y,hy,?_,?_⟩<;>split<;>rfl
  ·rintro ⟨y,hy,rfl,rfl⟩
   refine ⟨_,List.mem_map.2 ⟨y,hy,rfl⟩,?_,?_⟩<;>split<;>rfl
 ·exact Iff.rfl
theorem aGt (G:Good R) {id g:Int} {old:Bool} (hb:¬ gBad id g) (hf:fnd R id=none) {x o:Int} :(∃ e∈(gAdd R id g old).1,e.id=x/\e.group=o)↔(x=id/\o=g)\/∃ e∈R,e.id=x/\e.group=o:=by
 unfold gAdd
 rw [if_neg hb,hf]
 simp only [Option.isSome_none,Bool.false_eq_true,if_false]
 have hm:=fun y=>apk (R:=R) (x:=⟨id,g,if old then 1 else 0⟩) (y:=y) ((akm G.rise).1 hf)
 constructor
 ·rintro ⟨e,he,rfl,rfl⟩
  rcases (hm e).1 he with rfl | he
  ·exact .inl ⟨rfl,rfl⟩
  ·exact .inr ⟨e,he,rfl,rfl⟩
 ·rintro (⟨rfl,rfl⟩ | ⟨e,he,rfl,rfl⟩)
  ·exact ⟨_,(hm _).2 (.inl rfl),rfl,rfl⟩
  ·exact ⟨e,(hm _).2 (.inr he),rfl,rfl⟩
theorem aBw (G:Good R) {id:Int} :(fnd R id).isSome=true↔∃ e∈R,e.id=id:=by
 constructor
 ·intro h
  obtain ⟨e,he⟩:=Option.isSome_iff_exists.1 h
  have:=(adt G.rise).1 he
  exact ⟨e,this.1,this.2⟩
 ·rintro ⟨e,he,hid⟩
  rw [(adt G.rise).2 ⟨he,hid⟩];rfl
theorem aFv {g:Int} {ch:Int ->Int ->Int×Int} (hch:∀ a b,(ch a b).1=a) {x o:Int} :(∃ e∈(adc R g ch).1,e.id=x/\e.group=o)↔∃ e∈R,e.id=x/\e.group=o:=by
 have hg:∀ e:Ent,(chg g ch e).group=e.group:=fun e=>by unfold chg;split<;>simp [hch]
 constructor
 ·rintro ⟨e,he,rfl,rfl⟩
  obtain ⟨y,hy,rfl⟩:=List.mem_map.1 he
  exact ⟨y,hy,(aod g ch y).symm,(hg y).symm⟩
 ·rintro ⟨y,hy,rfl,rfl⟩
  exact ⟨_,List.mem_map.2 ⟨y,hy,rfl⟩,aod g ch y,hg y⟩
theorem aBz {g:Int} {ch:Int ->Int ->Int×Int} :(adc R g ch).1.length=R.length:=by unfold adc;simp
variable {S:Cs}
theorem Inv.new (frames slots:Int) (sizes:List Int):Inv (new frames slots sizes):=by
 have hst:∀ n pl,aa8 TS.zero Kt.new (sNew n) pl:=by
  intro n pl
  have hc:∀ is:Pg ->Bool,cnt TS.zero pl is=0:=fun is=>rfl
  refine ⟨by show (List.replicate _ false).length<=1024;simp;omega,by show (List.replicate _ (0:UInt8)).length=16*(List.replicate _ false).length;simp,aco.new,fun a=> ?_,fun g h0 h1=> ?_,?_⟩
  ·constructor
   ·intro h
    have h:(List.replicate (min (max n 0).toNat 1024) false)[a]? =some true:=h
    rw [List.getElem?_replicate] at h
    split at h<;>simp at h
   ·rintro ⟨_,_,h,_⟩;cases h
  ·rw [hc]
   show cUse (List.replicate 64 ⟨0,top⟩) g=0
   unfold cUse cOf
   split
   ·rw [List.getD_eq_getElem?_getD,List.getElem?_replicate,if_pos (by omega)];rfl
   ·rfl
  ·rw [hc]
   show (List.replicate (min (max n 0).toNat 1024) false).count true=0
   rw [List.count_replicate];rfl
 exact ⟨⟨aIe,rfl,acp.zero,fun _ _ h=>(by cases h),hst _ _,hst _ _,Good.nil,fun id g=>⟨fun ⟨_,h,_⟩=>(by cases h),fun ⟨_,h,_⟩=>by cases h⟩,List.length_replicate,fun _ _ h=>(by cases h),fun _ _ h=>(by cases h),(by show (0:Int)<=16777216;decide)⟩,fun _ _ h=>by cases h⟩
theorem Inv.gens_ (h:Inv S) {R:List Ent} (hG:Good R) (hm:∀ x o,(∃ e∈R,e.id=x/\e.group=o)↔∃ e∈S.gens,e.id=x/\e.group=o):Inv {S with gens:=R} :=
 {h with good:=hG,gen:=fun id g=>(hm id g).trans (h.gen id g)}
theorem Inv.file (h:Inv S) {k:Int×Int} {t:List UInt8} :Inv {S with files:=(aht S.files k t).1} :=by
 unfold aht
 split
 ·exact h
 ·split
  ·exact h
  ·next h16=>
   have h16:t.length=16:=by simpa using h16
   refine {h with fil:=fun id p hp=> ?_,txt:=fun x u hu=> ?_}
   ·exact h.fil id p hp
   ·have hu:(if x=k then some t else S.files.pages x)=some u:=hu
    split at hu
    ·rw [<- Option.some.inj hu];exact h16
    ·exact h.txt x u hu
theorem Inv.setPg (h:Inv S) {id:Int} {p q:Pg} (hp:S.pages.pg id=some p) (h1:q.place=p.place) (h2:q.at_=p.at_) (h3:q.kf=p.kf) (h4:q.ki=p.ki) (h5:0<=q.refs) (h6:q.owner=p.owner):Inv {S with pages:=S.pages.setPg id q} :=by
 have hs:∀ x,((S.pages.setPg id q).pg x=S.pages.pg x)\/((∀ p,S.pages.pg x=some p ->p.place≠1)/\∀ p,(S.pages.setPg id q).pg x=some p ->p.place≠1)\/(∃ p q',S.pages.pg x=some p/\(S.pages.setPg id q).pg x=some q'/\q'.place=p.place/\q'.at_=p.at_/\q'.owner=p.owner):=by
  intro x
  by_cases hx:x=id
  ·subst hx;exact .inr (.inr ⟨p,q,hp,ac8 _ _ _,h1,h2,h6⟩)
  ·exact .inl (upd_ne _ _ hx)
 have hs2:∀ x,((S.pages.setPg id q).pg x=S.pages.pg x)\/((∀ p,S.pages.pg x=some p ->p.place≠2)/\∀ p,(S.pages.setPg id q).pg x=some p ->p.place≠2)\/(∃ p q',S.pages.pg x=some p/\(S.pages.setPg id q).pg x=some q'/\q'.place=p.place/\q'.at_=p.at_/\q'.owner=p.owner):=by
  intro x
  by_cases hx:x=id
  ·subst hx;exact .inr (.inr ⟨p,q,hp,ac8 _ _ _,h1,h2,h6⟩)
  ·exact .inl (upd_ne _ _ hx)
 refine {h with tab:=h.tab.set hp h1 h2 h3 h4 h5,own:=fun x r hr=> ?_,fr:=h.fr.other rfl hs,sl:=h.sl.other rfl hs2,gen:=fun x g=> ?_,fil:=fun x r hr=> ?_,anon:=fun x r hr=> ?_}
 ·rcases acK hr with ⟨rfl,rfl⟩ | ⟨_,hr⟩
  ·show S.live r.owner=true
   rw [h6];exact h.own _ _ hp
  ·exact h.own _ _ hr
 ·show (∃ e∈S.gens,e.id=x/\e.group=g)↔∃ r,upd S.pages.pg id (some q) x=some r/\r.place=1/\r.owner=g
  rw [h.gen]
  by_cases hx:x=id
  ·subst hx
   rw [ac8,hp]
   constructor
   ·rintro ⟨r,hr,e⟩;have:=Option.some.inj hr;subst this;exact ⟨q,rfl,by rw [h1,h6];exact e⟩
   ·rintro ⟨r,hr,e⟩;have:=Option.some.inj hr;subst this;exact ⟨p,rfl,by rw [<- h1,<- h6];exact e⟩
  ·rw [upd_ne _ _ hx]
 ·rcases acK hr with ⟨rfl,rfl⟩ | ⟨_,hr⟩
  ·rw [h1,h3,h4];exact h.fil _ _ hp
  ·exact h.fil _ _ hr
 ·rcases acK hr with ⟨rfl,rfl⟩ | ⟨_,hr⟩
  ·rw [h1,h3];exact h.anon _ _ hp
  ·exact h.anon _ _ hr
theorem Inv.mark (h:Inv S) (id:Int) (d:Bool):Inv {S with pages:=(S.pages.mark id d).1} :=by
 unfold TS.mark
 cases hp:S.pages.pg id with
 | none=>exact h
 | some p=>exact h.setPg hp rfl rfl rfl rfl (h.tab.pl _ _ hp).2 rfl
theorem Inv.clean (h:Inv S) (id:Int) (p:Pg):Inv (S.clean id p):=by
 unfold Cs.clean
 split
 ·exact (h.file (k:=(p.kf,p.ki)) (t:=S.text p)).mark id false
 ·exact h
theorem Inv.touch (h:Inv S) (id:Int):Inv {S with gens:=(abZ S.gens id).1} :=h.gens_ (h.good.touch id) (fun _ _=>aEh)
theorem akw:∀ (l:List Int) {R:List Ent},Good R ->Good (abn R l).1/\(∀ x o,(∃ e∈(abn R l).1,e.id=x/\e.group=o)↔∃ e∈R,e.id=x/\e.group=o)/\(abn R l).1.length=R.length
 | [],_,h=>⟨h,fun _ _=>Iff.rfl,rfl⟩
 | g::l,R,h=>by
  have h1:=akw l (h.age g)
  refine ⟨h1.1,fun x o=>(h1.2.1 x o).trans (aFv (fun a b=>rfl)),?_⟩
  show (abn (adc R g adV).1 l).1.length=_
  rw [h1.2.2,aBz]
theorem Inv.age (h:Inv S) (t:Int):Inv (S.age t).1:=by
 have:=akw (abe S.tree t) h.good
 exact h.gens_ this.1 this.2.1
theorem Inv0.page (_:Inv0 S) {id:Int} {p:Pg} (hp:S.pages.pg id=some p):S.pages.get id=(p,0):=by unfold TS.get;rw [hp]
theorem auK (l:List Int) (g:Int):(went l g).1.length=l.length:=by unfold went;split<;>simp
theorem abB (T:TS) (id:Int) (p:Pg) (pl a x:Int):(T.putT id p pl a).pg x=if x=id then some (p.to pl a) else T.pg x:=rfl
theorem Inv0.put0 (h:Inv0 S) {id:Int} {p:Pg} (hp:S.pages.pg id=some p):S.pages.put id 0 0=(S.pages.putT id p 0 0,0):=
 h.tab.put_eq hp ⟨by decide,by decide,by decide,fun _=>rfl⟩ (fun _ _ _ _ _ h=>absurd rfl h)
theorem Inv0.unframe (h:Inv0 S) {id:Int} {p:Pg} (hp:S.pages.pg id=some p) (h1:p.place=1) {lg:List Int} (hlg:lg.length=64) {K:Int ->Option Int} :
  Inv0 {S with pages:=S.pages.putT id p 0 0,fr:=S.fr.give p.at_ (aac S.tree p.owner),gens:=(adX S.gens id).1,log:=lg,kept:=K} :=by
 have hnf:∀ q id',S.pages.pg id'=some q ->q.place=0 ->q.at_=0 ->(0:Int)≠0 ->id'=id:=fun _ _ _ _ _ h=>absurd rfl h
 have hT:=h.tab.putT hp (pl:=0) (a:=0) ⟨by decide,by decide,by decide,fun _=>rfl⟩ hnf
 have hoth:∀ x,x≠id ->(S.pages.putT id p 0 0).pg x=S.pages.pg x:=fun x hx=>upd_ne _ _ hx
 refine ⟨h.wf,h.gl,hT,fun x r hr=> ?_,h.fr.give h.tab h.wf (by decide) hp h1 (h.own _ _ hp) rfl hoth (fun q hq=> ?_),h.sl.other rfl (fun x=> ?_),h.good.drop id,fun x g=> ?_,hlg,fun x r hr=> ?_,h.txt,h.ids⟩
 ·rcases acK hr with ⟨rfl,rfl⟩ | ⟨_,hr⟩
  ·show S.live p.owner=true;exact h.own _ _ hp
  ·exact h.own _ _ hr
 ·rw [abB,if_pos rfl] at hq
  rw [<- Option.some.inj hq];show (0:Int)≠1;decide
 ·by_cases hx:x=id
  ·subst hx
   refine .inr (.inl ⟨fun q hq=> ?_,fun q hq=> ?_⟩)
   ·rw [hp] at hq;rw [<- Option.some.inj hq,h1];decide
   ·rw [abB,if_pos rfl] at hq;rw [<- Option.some.inj hq];show (0:Int)≠2;decide
  ·exact .inl (hoth x hx)
 ·show (∃ e∈(adX S.gens id).1,e.id=x/\e.group=g)↔∃ r,(S.pages.putT id p 0 0).pg x=some r/\r.place=1/\r.owner=g
  rw [arz h.good,h.gen,abB]
  by_cases hx:x=id
  ·rw [if_pos hx]
   refine ⟨fun hh=>absurd hx hh.1,?_⟩
   rintro ⟨r,hr,e,_⟩
   rw [<- Option.some.inj hr] at e
   have e:(0:Int)=1:=e
   omega
  ·rw [if_neg hx];exact ⟨fun hh=>hh.2,fun hh=>⟨hx,hh⟩⟩
 ·rcases acK hr with ⟨rfl,rfl⟩ | ⟨_,hr⟩
  ·exact fun hk'=>⟨(h.fil _ _ hp hk').1,by show (0:Int)≠2;decide⟩
  ·exact h.fil _ _ hr
theorem Inv0.unslot (h:Inv0 S) {id:Int} {p:Pg} (hp:S.pages.pg id=some p) (h1:p.place=2):
  Inv0 {S with pages:=S.pages.putT id p 0 0,sl:=S.sl.give p.at_ (aac S.tree p.owner)} :=by
 have hnf:∀ q id',S.pages.pg id'=some q ->q.place=0 ->q.at_=0 ->(0:Int)≠0 ->id'=id:=fun _ _ _ _ _ h=>absurd rfl h
 have hT:=h.tab.putT hp (pl:=0) (a:=0) ⟨by decide,by decide,by decide,fun _=>rfl⟩ hnf
 have hoth:∀ x,x≠id ->(S.pages.putT id p 0 0).pg x=S.pages.pg x:=fun x hx=>upd_ne _ _ hx
 refine ⟨h.wf,h.gl,hT,fun x r hr=> ?_,h.fr.other rfl (fun x=> ?_),h.sl.give h.tab h.wf (by decide) hp h1 (h.own _ _ hp) rfl hoth (fun q hq=> ?_),h.good,fun x g=> ?_,h.log,fun x r hr=> ?_,h.txt,h.ids⟩
 ·rcases acK hr with ⟨rfl,rfl⟩ | ⟨_,hr⟩
  ·show S.live p.owner=true;exact h.own _ _ hp
  ·exact h.own _ _ hr
 ·by_cases hx:x=id
  ·subst hx
   refine .inr (.inl ⟨fun q hq=> ?_,fun q hq=> ?_⟩)
   ·rw [hp] at hq;rw [<- Option.some.inj hq,h1];decide
   ·rw [abB,if_pos rfl] at hq;rw [<- Option.some.inj hq];show (0:Int)≠1;decide
  ·exact .inl (hoth x hx)
 ·rw [abB,if_pos rfl] at hq
  rw [<- Option.some.inj hq];show (0:Int)≠2;decide
 ·show (∃ e∈S.gens,e.id=x/\e.group=g)↔∃ r,(S.pages.putT id p 0 0).pg x=some r/\r.place=1/\r.owner=g
  rw [h.gen,abB]
  by_cases hx:x=id
  ·subst hx
   rw [if_pos rfl,hp]
   constructor
   ·rintro ⟨r,hr,e,_⟩
    rw [<- Option.some.inj hr,h1] at e;cases e
   ·rintro ⟨r,hr,e,_⟩
    rw [<- Option.some.inj hr] at e
    have e:(0:Int)=1:=e
    omega
  ·rw [if_neg hx]
 ·rcases acK hr with ⟨rfl,rfl⟩ | ⟨_,hr⟩
  ·exact fun hk'=>⟨(h.fil _ _ hp hk').1,by show (0:Int)≠2;decide⟩
  ·exact h.fil _ _ hr
theorem Inv.leave0 (h:Inv S) {id:Int} {p:Pg} (hp:S.pages.pg id=some p) (h1:p.place=1) (hk:0<=p.kf):Inv ({S with pages:=(S.pages.put id 0 0).1}.leave id p (S.chain p.owner)):=by
 rw [h.put0 hp]
 refine ⟨h.unframe hp h1 (by rw [auK];exact h.log),fun x r hr hk'=> ?_⟩
 rcases acK hr with ⟨rfl,rfl⟩ | ⟨_,hr⟩
 ·exact absurd hk (by have:p.kf<0:=hk';omega)
 ·exact h.anon _ _ hr hk'
theorem Inv.away (h:Inv S) {id:Int} {p:Pg} (hp:S.pages.pg id=some p) (h1:p.place=1) (hk:p.kf<0) (hw:(S.away id p (S.chain p.owner)).2=true):Inv ((S.away id p (S.chain p.owner)).1.leave id p (S.chain p.owner)):=by
 unfold Cs.away at hw ⊢
 split at hw
 ·cases hw
 next hany=>
 rw [if_neg hany]
 dsimp only at hw ⊢
 split at hw
 ·cases hw
 next hf=>
 rw [if_neg hf]
 dsimp only
 have hf:(abq S.sl.pool).2.2=0:=by simpa using hf
 obtain ⟨a,ha,_,he⟩:=agM hf
 rw [he]
 dsimp only
 have hal:=(List.getElem?_eq_some_iff.1 ha).1
 have hlive:=h.own _ _ hp
 have hc:=aan h.wf hlive
 have hlim:∀ g∈aac S.tree p.owner,cUse S.sl.used g+1<=aab S.sl.used g:=by
  intro g hg
  have:=(not_exists.1 (fun hh=>hany (List.any_eq_true.2 hh))) g
  simp only [decide_eq_true_eq,not_and,Int.not_le] at this
  have:=this hg
  omega
 have htry:cTry S.sl.used (S.chain p.owner) 1=(cAdd S.sl.used (aac S.tree p.owner) 1, -1,0):=by
  by_cases h0:(cTry S.sl.used (S.chain p.owner) 1).2.2=0
  ·exact (afN h0).2.1
  ·obtain ⟨g,hg,_,_,hlt⟩:=aeO (acW h.wf hlive ⟨by decide,by decide⟩) h0
   have:=hlim g hg;omega
 rw [htry]
 have hnf:∀ q id',S.pages.pg id'=some q ->q.place=2 ->q.at_=(a:Int) ->(2:Int)≠0 ->id'=id:=by
  intro q id' hq e1 e2 _
  have:=(h.sl.taken a).2 ⟨id',q,hq,e1,e2⟩
  rw [ha] at this;cases this
 rw [h.tab.put_eq hp ⟨by decide,by decide,by omega,fun hh=>absurd hh (by decide)⟩ hnf]
 have hT:=h.tab.putT hp (pl:=2) (a:=a) ⟨by decide,by decide,by omega,fun hh=>absurd hh (by decide)⟩ hnf
 have hoth:∀ x,x≠id ->(S.pages.putT id p 2 a).pg x=S.pages.pg x:=fun x hx=>upd_ne _ _ hx
 have hX:(By.wr (S.sl.pool.set a true).length S.sl.by_ a (S.text p)).1.length=16*S.sl.pool.length:=by
  rw [List.length_set];exact By.asP h.sl.len _
 unfold Cs.leave
 dsimp only
 refine ⟨⟨h.wf,h.gl,hT,fun x r hr=> ?_,h.fr.give h.tab h.wf (by decide) hp h1 (h.own _ _ hp) rfl hoth (fun q hq=> ?_),?_,h.good.drop id,fun x g=> ?_,?_,fun x r hr=> ?_,h.txt,h.ids⟩,fun x r hr=> ?_⟩
 ·rcases acK hr with ⟨rfl,rfl⟩ | ⟨_,hr⟩
  ·show S.live p.owner=true;exact h.own _ _ hp
  ·exact h.own _ _ hr
 ·rw [abB,if_pos rfl] at hq
  rw [<- Option.some.inj hq];show (2:Int)≠1;decide
 ·exact h.sl.take_ (T':=S.pages.putT id p 2 a) h.tab h.wf hp (by rw [h1];decide) rfl hoth (q:=p.to 2 a) (by rw [abB,if_pos rfl]) rfl hlive rfl ha hlim hX
 ·show (∃ e∈(adX S.gens id).1,e.id=x/\e.group=g)↔∃ r,(S.pages.putT id p 2 a).pg x=some r/\r.place=1/\r.owner=g
  rw [arz h.good,h.gen,abB]
  by_cases hx:x=id
  ·rw [if_pos hx]
   refine ⟨fun hh=>absurd hx hh.1,?_⟩
   rintro ⟨r,hr,e,_⟩
   rw [<- Option.some.inj hr] at e
   have e:(2:Int)=1:=e
   omega
  ·rw [if_neg hx];exact ⟨fun hh=>hh.2,fun hh=>⟨hx,hh⟩⟩
 ·show (went S.log p.owner).1.length=64
  rw [auK];exact h.log
 ·rcases acK hr with ⟨rfl,rfl⟩ | ⟨_,hr⟩
  ·exact fun hk'=>absurd hk (by have:0<=p.kf:=hk';omega)
  ·exact h.fil _ _ hr
 ·rcases acK hr with ⟨rfl,rfl⟩ | ⟨_,hr⟩
  ·exact fun _=>by show (2:Int)≠0;decide
  ·exact h.anon _ _ hr
theorem aks {id:Int} (ho:(S.out id).2=false):(S.out id).1=S:=by
 unfold Cs.out at ho ⊢
 dsimp only at ho ⊢
 split at ho
 ·cases ho
 ·next hh=>
  rw [if_neg hh]
  split at ho
  ·cases ho
  ·next h2=>rw [if_neg h2]
theorem agu (id:Int) (p q:Pg) (hq:S.pages.pg id=some q):∃ q',(S.clean id p).pages.pg id=some q'/\q'.place=q.place/\q'.at_=q.at_/\q'.kf=q.kf/\q'.ki=q.ki/\q'.owner=q.owner/\q'.refs=q.refs:=by
 unfold Cs.clean
 split
 ·show ∃ q',(S.pages.mark id false).1.pg id=some q'/\_
  unfold TS.mark
  rw [hq]
  exact ⟨_,ac8 _ _ _,rfl,rfl,rfl,rfl,rfl,rfl⟩
 ·exact ⟨q,hq,rfl,rfl,rfl,rfl,rfl,rfl⟩
theorem adW (id:Int) (p:Pg):(S.clean id p).tree=S.tree/\(S.clean id p).fr=S.fr/\(S.clean id p).sl=S.sl/\(S.clean id p).gens=S.gens/\(S.clean id p).log=S.log/\(S.clean id p).kept=S.kept/\(S.clean id p).guards=S.guards:=by
 unfold Cs.clean
 split<;>exact ⟨rfl,rfl,rfl,rfl,rfl,rfl,rfl⟩
theorem Inv.out (h:Inv S) {id:Int} {p:Pg} (hp:S.pages.pg id=some p) (h1:p.place=1):Inv (S.out id).1:=by
 cases ho:(S.out id).2 with
 | false=>rw [aks ho];exact h
 | true=>
  unfold Cs.out at ho ⊢
  rw [h.page hp] at ho ⊢
  dsimp only at ho ⊢
  by_cases hk:0<=p.kf
  ·rw [if_pos hk]
   dsimp only
   have hcl:=h.clean id p
   obtain ⟨q,hq,e1,e2,e3,e4,e5,e6⟩:=agu id p p hp
   obtain ⟨c1,c2,c3,c4,c5,c6,c7⟩:=adW (S:=S) id p
   have:=hcl.leave0 hq (by rw [e1,h1]) (by rw [e3];exact hk)
   have el:∀ S':Cs,S'.leave id q ((S.clean id p).chain q.owner)=S'.leave id p (S.chain p.owner):=by
    intro S'
    unfold Cs.leave Cs.chain
    rw [e2,e5,c1]
   rw [el] at this
   exact this
  ·rw [if_neg hk] at ho ⊢
   split at ho
   ·next hw=>rw [if_pos hw];exact h.away hp h1 (by omega) hw
   ·cases ho
theorem aBU {id:Int} (ho:(S.out id).2=true):(S.out id).1.gens=(adX S.gens id).1:=by
 unfold Cs.out at ho ⊢
 dsimp only at ho ⊢
 split
 ·show (adX (S.clean id _).gens id).1=_
  rw [(adW id _).2.2.2.1]
 ·next hh=>
  rw [if_neg hh] at ho
  split
  ·show (adX (S.away id _ _).1.gens id).1=_
   congr 1
   unfold Cs.away
   split
   ·rfl
   ·dsimp only;split<;>rfl
  ·next h2=>rw [if_neg h2] at ho;cases ho
theorem anb {R:List Ent} {gs:List Int} {id:Int} (h:id∈ab6 R gs):∃ e∈R,e.id=id/\e.group∈gs:=by
 unfold ab6 at h
 obtain ⟨a,_,h⟩:=List.mem_flatMap.1 h
 obtain ⟨e,he,rfl⟩:=List.mem_map.1 h
 rw [List.mem_filter,Bool.and_eq_true] at he
 exact ⟨e,he.1,rfl,by simpa using he.2.1⟩
theorem ah5 {held:Int ->Bool} :∀ (l:List Int) {S:Cs},(pass held l S).2=false ->(pass held l S).1=S
 | [],_,_=>rfl
 | id::l,S,h=>by
  unfold pass at h ⊢
  split
  ·next hh=>rw [if_pos hh] at h;exact ah5 l h
  ·next hh=>
   rw [if_neg hh] at h
   dsimp only at h ⊢
   split
   ·next ho=>rw [if_pos ho] at h;cases h
   ·next ho=>
    rw [if_neg ho] at h
    have ho:(S.out id).2=false:=by simpa using ho
    rw [aks ho] at h ⊢
    exact ah5 l h
theorem anc {held:Int ->Bool} :∀ (l:List Int) {S:Cs},(pass held l S).2=true ->∃ id,id∈l/\held (S.pages.get id).1.owner=false/\(S.out id).2=true/\(pass held l S).1=(S.out id).1
 | [],_,h=>by cases h
 | id::l,S,h=>by
  unfold pass at h ⊢
  split
  ·next hh=>
   rw [if_pos hh] at h
   obtain ⟨x,h1,h2⟩:=anc l h
   exact ⟨x,List.mem_cons_of_mem _ h1,h2⟩
  ·next hh=>
   rw [if_neg hh] at h
   dsimp only at h ⊢
   split
   ·next ho=>exact ⟨id,List.mem_cons_self ..,by simpa using hh,ho,rfl⟩
   ·next ho=>
    rw [if_neg ho] at h
    have ho:(S.out id).2=false:=by simpa using ho
    rw [aks ho] at h ⊢
    obtain ⟨x,h1,h2⟩:=anc l h
    exact ⟨x,List.mem_cons_of_mem _ h1,h2⟩
theorem ahr {t:Int} {gs:List Int} {all:Bool} (h:(S.evictG t gs all).2=false):(S.evictG t gs all).1=S:=by
 unfold Cs.evictG at h ⊢
 split
 ·rfl
 ·next hl=>
  rw [if_neg hl] at h
  dsimp only at h ⊢
  split
  ·next hr=>rw [if_pos hr] at h;cases h
  ·next hr=>
   rw [if_neg hr] at h
   have hr:=ah5 _ (by simpa using hr)
   split
   ·next ha=>
    rw [if_pos ha] at h
    rw [ah5 _ h,hr]
   ·exact hr
theorem akx {t:Int} {gs:List Int} {all:Bool} (h:(S.evictG t gs all).2=true):S.live t=true/\∃ id,id∈ab6 S.gens gs/\bAt (S.held t aaz.min) (S.pages.get id).1.owner=false/\(S.out id).2=true/\(S.evictG t gs all).1=(S.out id).1:=by
 unfold Cs.evictG at h ⊢
 split
 ·next hl=>rw [if_pos hl] at h;cases h
 ·next hl=>
  rw [if_neg hl] at h
  refine ⟨by simpa using hl,?_⟩
  dsimp only at h ⊢
  split
  ·next hr=>
   obtain ⟨id,h1,h2,h3,h4⟩:=anc _ hr
   rw [Bool.or_eq_false_iff] at h2
   exact ⟨id,h1,h2.1,h3,h4⟩
  ·next hr=>
   rw [if_neg hr] at h
   have hr:=ah5 _ (by simpa using hr)
   split
   ·next ha=>
    rw [if_pos ha] at h
    rw [hr] at h ⊢
    obtain ⟨id,h1,h2,h3,h4⟩:=anc _ h
    exact ⟨id,h1,h2,h3,h4⟩
   ·next ha=>rw [if_neg ha] at h;cases h
theorem Inv.inFrame (h:Inv S) {gs:List Int} {id:Int} (hm:id∈ab6 S.gens gs):∃ p,S.pages.pg id=some p/\p.place=1/\p.owner∈gs:=by
 obtain ⟨e,he,e1,e2⟩:=anb hm
 obtain ⟨p,hp,h1,h2⟩:=(h.gen id e.group).1 ⟨e,he,e1,rfl⟩
 exact ⟨p,hp,h1,by rw [h2];exact e2⟩
theorem Inv.evictG (h:Inv S) (t:Int) (gs:List Int) (all:Bool):Inv (S.evictG t gs all).1:=by
 cases hr:(S.evictG t gs all).2 with
 | false=>rw [ahr hr];exact h
 | true=>
  obtain ⟨_,id,h1,_,_,h4⟩:=akx hr
  obtain ⟨p,hp,hpl,_⟩:=h.inFrame h1
  rw [h4];exact h.out hp hpl
theorem Inv.evict (h:Inv S) (t:Int):Inv (S.evict t).1:=h.evictG t _ _
theorem auo (h:Inv S) {t:Int} {gs:List Int} {all:Bool} (hr:(S.evictG t gs all).2=true):(S.evictG t gs all).1.gens.length<S.gens.length:=by
 obtain ⟨_,id,h1,_,h3,h4⟩:=akx hr
 obtain ⟨e,he,e1,_⟩:=anb h1
 rw [h4,aBU h3]
 exact aBy ((aBw h.good).2 ⟨e,he,e1⟩)
theorem Inv.evictN {t:Int} {gs:List Int} :∀ (n:Nat) {S:Cs},Inv S ->Inv (evictN t gs n S).1
 | 0,_,h=>h
 | n+1,_,h=>Inv.evictN n (h.evictG t gs false)
theorem Inv.shareOut {t:Int} :∀ (l:List (Int×Int)) {S:Cs},Inv S ->Inv (shareOut t l S).1
 | [],_,h=>h
 | (_,k)::l,_,h=>Inv.shareOut l (Inv.evictN k.toNat h)
theorem Inv.evictM {t:Int} :∀ (n:Nat) {S:Cs},Inv S ->Inv (evictM t n S).1
 | 0,_,h=>h
 | n+1,S,h=>by
  unfold Kc.evictM
  dsimp only
  split
  ·exact Inv.evictM n (h.evict t)
  ·exact h.evict t
theorem Inv.shrink (h:Inv S) (t n:Int):Inv (S.shrink t n).1:=by
 unfold Cs.shrink
 split
 ·exact h
 ·exact Inv.evictM _ (Inv.shareOut _ h)
end Go.Kc
end
section
namespace Go.Vc
open Go
def FW:Option Nat ->Fence
 | none=>Fence.wide
 | some l=>Fence.wide.inRound l
theorem FW.fn (r:Option Nat) (f:FuncId):(FW r).fn f:=by cases r<;>exact trivial
theorem FW.depth (r:Option Nat):(FW r).depth=none:=by cases r<;>rfl
section
variable {P:Program} {τ:TypeId ->K1} {ρ:TypeId ->Kd} {pan:FuncId ->Bool} {A:Ann} {yl:Nat ->Bool} {n:Nat}
theorem FW.calls {r:Option Nat} {f:FuncId} {args:Array Value} {w:World} {R:Ending ->World ->Prop} (h:Calls P f args w R):CallsIn (FW r) n P f args w R:=by
 cases r with
 | none=>exact callsIn_wide.2 h
 | some l=>exact (callsIn_wide.2 h).inRound l
theorem FW.rows {r:Option Nat} {row:String} {args:Array Value} {w:World} {R:Value ->World ->Prop} (h:Rows P row args w R):RowsIn (FW r) n P row args w R:=by
 have h1:RowsIn Fence.wide n P row args w R:=fun c cs _=>let ⟨v,w',hR,s⟩:=h c cs;⟨v,w',hR,stepsIn_wide.2 s⟩
 cases r with
 | none=>exact h1
 | some l=>exact h1
theorem FW.some1 {r:Option Nat} {x:Prop} :(FW r).depth.isSome=true ->x:=by rw [FW.depth];intro h;cases h
theorem aEI {r:Option Nat} {o:Oper} {a0 a:Act} {w:World} {K K':Act ->World ->Prop} {Q Q':Exit ->Act ->World ->Prop} (ht:a0.tmps=a.tmps) (hnd:∀ c,o.op≠ .defer c) (h:o.wp P a0 w K Q)
  (hn:∀ v w',K (a0.put o.dst v) w' ->K' (a.put o.dst v) w') (hd:∀ d w',¬ K ({a0 with defers:=d::a0.defers}.put o.dst undef) w')
  (hp:∀ ch w',Q (.panic ch) a0 w' ->Q' (.panic ch) a w') (hl:LetsOut Q ->LetsOut Q'):o.wpIn (FW r) n P a w K' Q':=by
 refine ⟨fun f _=>FW.fn r f,?_⟩
 have he:a0.eval=a.eval:=by funext x;cases x<;>simp [Act.eval,ht]
 rw [Oper.semAt_eq _ _ _ hnd,<- he]
 unfold Oper.wp at h
 generalize (execOp a0.eval o).run P w=res at h ⊢
 match res with
 | .ok (.value v) w'=>exact hn _ _ h
 | .ok .skip w'=>exact hn _ _ h
 | .ok (.defer d) w'=>exact absurd h (hd d w')
 | .ok (.enter f args) w'=>
  refine ⟨FW.some1,FW.calls (Calls.mono h fun e w'' he=> ?_)⟩
  cases e with
  | returned v=>exact hn _ _ he
  | panicked ch=>exact hp _ _ he
  | outgrown=>exact hl he
 | .ok (.row row args) w'=>exact ⟨FW.some1,FW.rows (Rows.mono h fun v w'' hv=>hn _ _ hv)⟩
 | .halt (.panic v) w'=>exact hp _ _ h
def marks (D:List Nat):List Deferred:=D.map fun b=> {target:= .collected b,args:= #[]}
structure RelI (D:List Nat) (N:Nat) (T:Tr) (a:Act):Prop where
 defers:a.defers=marks D
 rel:Rel N T {tmps:=a.tmps,defers:= []}
theorem RelI.put {D:List Nat} {N:Nat} {T:Tr} {a:Act} (h:RelI D N T a) (hN:N<=8000) {d:Option Nat} (hd:∀ t,d=some t ->t<N) (v:Value):RelI D N (T.put d v) (a.put d v):=by
 have:=h.rel.put hN hd v
 cases d with
 | none=>exact ⟨h.defers,this⟩
 | some d=>exact ⟨h.defers,this⟩
theorem RelI.same {D:List Nat} {N:Nat} {T T':Tr} {a:Act} (h:RelI D N T a) (ht:∀ t,T'.get t=T.get t):RelI D N T' a:=⟨h.defers,h.rel.same ht⟩
theorem RelI.ev {D:List Nat} {N:Nat} {T:Tr} {a:Act} (h:RelI D N T a):a.eval=T.ev:=by
 rw [<- h.rel.ev];funext x;cases x<;>rfl
theorem RelI.of {N:Nat} {T:Tr} {a:Act} (h:Rel N T a):RelI [] N T a:=⟨h.defers,⟨rfl,h.size,h.get⟩⟩
def aEb (P:Program) (r:Option Nat) (g:Value) (args:Array Value) (w:World) (R:Ending ->World ->Prop):Prop:=
 ∃ l,g= .func (.yield l) #[] #[]/\YieldAt (FW r) 0 P l args w R
def yldB (yl:Nat ->Bool) (o:Oper):Bool:=match o.dst with | some d=>yl d | none=>false
def vOpI (P:Program) (τ:TypeId ->K1) (ρ:TypeId ->Kd) (pan:FuncId ->Bool) (A:Ann) (yl:Nat ->Bool) (r:Option Nat) (o:Oper) (T:Tr) (w:World) (next:Tr ->World ->Prop) (Q:Exit ->Tr ->World ->Prop):Prop:=
 bif yldB yl o then (match o.op with
  | .call {callee:= .value g,args,.. } =>aEb P r (T.ev g) (args.map T.ev) w fun e w'=>(ρ o.type).ex fun v=>e= .returned v/\next (T.put o.dst v) w'
  | _=>False)
 else vOp P τ ρ pan A o T w next Q
def aAD (P:Program) (τ:TypeId ->K1) (ρ:TypeId ->Kd) (pan:FuncId ->Bool) (A:Ann) (yl:Nat ->Bool) (r:Option Nat) (ops:Array Oper) (Q:Exit ->Tr ->World ->Prop):List Oper ->Tr ->World ->Prop
 | [],T,w=>Q .normal T w
 | o::rest,T,w=>ae0 ops o T (fun T=>vOpI P τ ρ pan A yl r o T w (aAD P τ ρ pan A yl r ops Q rest) Q) (fun T=>aAD P τ ρ pan A yl r ops Q rest (T.put o.dst undef) w)
def as7 (P:Program) (τ:TypeId ->K1) (ρ:TypeId ->Kd) (pan:FuncId ->Bool) (A:Ann) (yl:Nat ->Bool) (r:Option Nat) (ops:Array Oper) (Q:Exit ->Tr ->World ->Prop):Nat ->Array Bool ->Tr ->World ->Prop
 | 0,listed,T,w=>match Region.ready .any ops listed with
  | []=>Q .normal T w
  | _=>False
 | fuel+1,listed,T,w=>match Region.ready .any ops listed with
  | []=>Q .normal T w
  | i::l=>axB (fun i=>match ops[i]? with
   | none=>False
   | some o=>ae0 ops o T (fun T=>vOpI P τ ρ pan A yl r o T w (as7 P τ ρ pan A yl r ops Q fuel (listed.setIfInBounds i true)) Q) (fun T=>as7 P τ ρ pan A yl r ops Q fuel (listed.setIfInBounds i true) (T.put o.dst undef) w)) (i::l)
def aGI (b:Nat) (done ret:World ->Prop):Ending ->World ->Prop
 | .returned _,w=>∃ r:Loop,w.heap[b+1]? =some (.loop r)/\r.state≠ .busy/\(match r.pending with
  | none=>done (w.putObj (b+1) (.loop {r with state:= .exhausted}))
  | some .ret=>ret (w.putObj (b+1) (.loop {r with state:= .exhausted}))
  | _=>False)
 | _,_=>False
def am9 (fn:FuncId) (tm:Array Value) (ps:Array Tmp) (assign body:Code) (b:Nat):Loop:= {state:= .ready,pending:=none,fn,tmps:=tm,params:=ps,assign,body,defers:=b}
def TmOf (T:Tr) (tm:Array Value):Prop:=∀ t,tm.getD t undef=T.get t
def af6 (P:Program) (N:Nat) (g:Value) (ps:Array Tmp) (assign body:Code) (T:Tr) (w:World) (done ret:Nat ->World ->Prop):Prop:=
 ∃ (f:FuncId) (ca:Array Value),g= .func (.func f) #[] ca/\aju P f=true/\∀ (fn:FuncId) (tm:Array Value),tm.size=N ->TmOf T tm ->
  Calls P f (#[.func (.yield (w.heap.size+1)) #[] #[]]++ca) ((w.alloc (.deferred (some []))).alloc (.loop (am9 fn tm ps assign body w.heap.size))) (aGI w.heap.size (done w.heap.size) (ret w.heap.size))
def aEL (next:List Nat ->Tr ->World ->Prop) (Q:List Nat ->Exit ->Tr ->World ->Prop):List Nat ->Exit ->Tr ->World ->Prop
 | D,.normal,T,w=>next D T w
 | D,e,T,w=>Q D e T w
def aHg (id:Nat) (Q:List Nat ->Exit ->Tr ->World ->Prop):List Nat ->Exit ->Tr ->World ->Prop
 | D,.exit id',T,w=>bif Nat.beq id' id then Q D .normal T w else Q D (.exit id') T w
 | D,e,T,w=>Q D e T w
def vcI (P:Program) (τ:TypeId ->K1) (ρ:TypeId ->Kd) (pan:FuncId ->Bool) (A:Ann) (yl:Nat ->Bool) (N:Nat) (r:Option Nat):Nat ->Code ->(List Nat ->Exit ->Tr ->World ->Prop) ->List Nat ->Tr ->World ->Prop
 | 0,_,_,_,_,_=>False
 | n+1,c,Q,D,T,w=>match c with
  | .skip=>Q D .normal T w
  | .label _=>Q D .normal T w
  | .exit id=>Q D (.exit id) T w
  | .ret=>Q D .ret T w
  | .region id ops draw=>match draw with
   | false=>aAD P τ ρ pan A yl r ops (Q D) ops.toList T w
   | true=>bif A.head id==ops.size then Dr (fun w'=>vQs P τ ρ ops w' (fun T'=>Q D .normal T' w') ops.toList T) w else Dr (fun w'=>as7 P τ ρ pan A yl r ops (Q D) ops.size (Array.replicate ops.size false) T w') w
  | .seq x y=>vcI P τ ρ pan A yl N r n x (aEL (fun D T w=>vcI P τ ρ pan A yl N r n y Q D T w) Q) D T w
  | .cond c x y=>match T.ev c with
   | .bool t=>bif t then vcI P τ ρ pan A yl N r n x Q D T w else vcI P τ ρ pan A yl N r n y Q D T w
   | _=>False
  | .block id c=>vcI P τ ρ pan A yl N r n c (aHg id Q) D T w
  | .loop c=>aAC (A.loop ((acg c).getD 0)) (wr c) (fun next=>vcI P τ ρ pan A yl N r n c (aEL (fun D' T w=>D'=D/\next T w) Q) D) T w
  | .rangeFunc g ps assign body=>match r with
   | none=>af6 P N (T.ev g) ps assign body T w (fun b w'=>Q (b::D) .normal T w') (fun b w'=>Q (b::D) .ret T w')
   | some _=>False
  | _=>False
def abA (P:Program) (N:Nat) (A:Ann):Code ->Bool
 | .region id ops _=>(ab0 P N ops.toList&&ops.toList.all fun o=>match o.op with | .defer _=>false | _=>true)&&(bif A.head id==ops.size then Region.lexB .any ops else true)
 | .seq x y=>abA P N A x&&abA P N A y
 | .cond _ x y=>abA P N A x&&abA P N A y
 | .block _ c=>abA P N A c
 | .loop c=>abA P N A c&&okW c&&okSB (A.loop ((acg c).getD 0))
 | _=>true
theorem aCp {D:List Nat} {r:Option Nat} {N:Nat} {o:Oper} {T:Tr} {a:Act} {w:World} {next:Tr ->World ->Prop} {next':Act ->World ->Prop} {Q:Exit ->Tr ->World ->Prop} {Q':Exit ->Act ->World ->Prop}
  (hr:RelI D N T a) (hc:∀ s d x,o.op= .convert s d x ->(P.underlying s).isSome=true) (hnd:∀ c,o.op≠ .defer c)
  (h:vOpI P τ ρ pan A yl r o T w next Q) (hn:∀ v w',next (T.put o.dst v) w' ->next' (a.put o.dst v) w') (hp:∀ ch w',Q (.panic ch) T w' ->Q' (.panic ch) a w'):o.wpIn (FW r) 0 P a w next' Q':=by
 unfold vOpI at h
 cases hy:yldB yl o with
 | true=>
  rw [hy,cond_true] at h
  split at h
  ·rename_i g args ts ho
   obtain ⟨l,hg,fn,tmps,assign,body,hrun,hround⟩:=h
   refine ⟨fun f _=>FW.fn r f,?_⟩
   rw [<- hr.ev] at hg hrun
   have he:(execOp a.eval o).run P w= .ok (.round l fn tmps assign body) w:=by
    simp only [execOp,ho,resolve,hg,Deferred.ofValue,Sem.run_bind,Sem.run_pure,Result.andThen,invoke]
    simpa using hrun
   rw [Oper.semAt_eq _ _ _ hnd,he]
   refine ⟨FW.some1,hround.mono fun e w' he=> ?_⟩
   obtain ⟨v,rfl,hv⟩:=Kd.ex_some he
   exact hn _ _ hv
  ·exact h.elim
 | false=>
  rw [hy,cond_false] at h
  have:=as8 (next':=fun b w'=>∃ v,b= {tmps:=(a.put o.dst v).tmps,defers:= []} /\next (T.put o.dst v) w') (Q':=fun e _ w'=>match e with | .panic ch=>Q (.panic ch) T w' | _=>False) hr.rel hc h
   (fun v w' hv=>⟨v,by cases o.dst<;>rfl,hv⟩) (fun ch w' h=>h)
  refine aEI (a0:= {tmps:=a.tmps,defers:= []}) rfl hnd this (fun v w' hv=> ?_) (fun d w' hh=> ?_) (fun ch w' h=>hp _ _ h) (fun ⟨_,_,h⟩=>h.elim)
  ·obtain ⟨v',hv',hv⟩:=hv
   have e:a.put o.dst v=a.put o.dst v':=by
    cases hdst:o.dst with
    | none=>rfl
    | some d=>
     rw [hdst] at hv'
     have:=congrArg Act.tmps hv'
     simp only [Act.put] at this ⊢
     rw [this]
   rw [e];exact hn _ _ hv
  ·obtain ⟨v',hv',_⟩:=hh
   have:=congrArg Act.defers hv'
   cases hdst:o.dst with
   | none=>rw [hdst] at this;cases this
   | some d=>rw [hdst] at this;cases this
theorem ar7 {l:List Oper} (h:(l.all fun o=>match o.op with | .defer _=>false | _=>true)=true) {o:Oper} (ho:o∈l):∀ c,o.op≠ .defer c:=by
 intro c e
 have:=List.all_eq_true.1 h o ho
 rw [e] at this;cases this
theorem auJ {D:List Nat} {N:Nat} {ops:Array Oper} {o:Oper} {T:Tr} {a:Act} {yes no:Tr ->Prop} {B:Prop} (hN:N<=8000) (hops:ab0 P N ops.toList=true) (hr:RelI D N T a) (h:ae0 ops o T yes no)
  (hy:∀ T',(∀ t,T'.get t=T.get t) ->yes T' ->Region.wanted o (yielded ops a.tmps)=true ->B) (hn:∀ T',(∀ t,T'.get t=T.get t) ->no T' ->Region.wanted o (yielded ops a.tmps)=false ->B):B:=
 afw (B:=B) hN hops hr.rel h hy hn
theorem asJ {D:List Nat} {r:Option Nat} {N:Nat} (hN:N<=8000) {ops:Array Oper} (hops:ab0 P N ops.toList=true) {Q:Exit ->Tr ->World ->Prop} {Q':Exit ->Act ->World ->Prop} :∀ (l:List Oper) (T:Tr) (a:Act) (w:World),
  ab0 P N l=true ->(l.all fun o=>match o.op with | .defer _=>false | _=>true)=true ->RelI D N T a ->
  aAD P τ ρ pan A yl r ops Q l T w ->(∀ e T' w' a',Q e T' w' ->Fr (aaU l) T T' ->RelI D N T' a' ->Q' e a' w') ->wpListIn (FW r) 0 P ops Q' l a w
 | [],T,a,w,_,_,hr,h,hq=>hq _ _ _ _ h (.refl _ _) hr
 | o::l,T,a,w,hok,hdf,hr,h,hq=>by
  have hok':=al3 hok
  have hdf':(l.all fun o=>match o.op with | .defer _=>false | _=>true)=true:=by rw [List.all_cons,Bool.and_eq_true] at hdf;exact hdf.2
  have hc:=aeI hok (List.mem_cons_self (a:=o) (l:=l))
  have hdst:=ac7 hok (List.mem_cons_self (a:=o) (l:=l))
  have hnd:=ar7 hdf (List.mem_cons_self (a:=o) (l:=l))
  have hsub:∀ t,t∈aaU l ->t∈aaU (o::l):=fun t ht=>by
   unfold aaU at ht ⊢;rw [List.filterMap_cons];split<;>simp_all
  have hmem:∀ t,o.dst=some t ->t∈aaU (o::l)/\t<8000:=fun t ht=>⟨by simp [aaU,ht],Nat.lt_of_lt_of_le (hdst t ht) hN⟩
  refine auJ (B:=wpListIn (FW r) 0 P ops Q' (o::l) a w) hN hops hr h ?_ ?_
  ·intro T' hs hy hw
   unfold wpListIn
   rw [hw,if_pos rfl]
   have hr':=hr.same hs
   have hfr:Fr (aaU (o::l)) T T':=fun t _=>hs t
   refine aCp hr' hc hnd hy (fun v w' h'=> ?_) (fun ch w' hch=>hq _ _ _ _ hch hfr hr')
   exact asJ hN hops l _ _ _ hok' hdf' (hr'.put hN hdst v) h' (fun e T2 w2 a2 he hf hr2=>hq e T2 w2 a2 he ((hfr.trans (Fr.put _ _ _ _ hmem)).trans (hf.mono hsub)) hr2)
  ·intro T' hs hn hw
   unfold wpListIn
   rw [hw,if_neg (by decide)]
   have hr':=hr.same hs
   have hfr:Fr (aaU (o::l)) T T':=fun t _=>hs t
   exact ⟨fun f _=>FW.fn r f,asJ hN hops l _ _ _ hok' hdf' (hr'.put hN hdst undef) hn (fun e T2 w2 a2 he hf hr2=>hq e T2 w2 a2 he ((hfr.trans (Fr.put _ _ _ _ hmem)).trans (hf.mono hsub)) hr2)⟩
theorem asG {D:List Nat} {r:Option Nat} {N:Nat} (hN:N<=8000) {ops:Array Oper} (hops:ab0 P N ops.toList=true) (hdf:(ops.toList.all fun o=>match o.op with | .defer _=>false | _=>true)=true)
  {Q:Exit ->Tr ->World ->Prop} {Q':Exit ->Act ->World ->Prop} {T0:Tr} (hq:∀ e T' w' a',Q e T' w' ->Fr (aaU ops.toList) T0 T' ->RelI D N T' a' ->Q' e a' w'):
  ∀ (fuel:Nat) (listed:Array Bool) (T:Tr) (a:Act) (w:World),Fr (aaU ops.toList) T0 T ->RelI D N T a ->as7 P τ ρ pan A yl r ops Q fuel listed T w ->wpAnyIn (FW r) 0 P .any ops Q' fuel listed a w
 | 0,listed,T,a,w,hf,hr,h=>by
  unfold as7 at h
  unfold wpAnyIn
  split at h
  ·next e=>exact ⟨e,hq _ _ _ _ h hf hr⟩
  ·exact h.elim
 | fuel+1,listed,T,a,w,hf,hr,h=>by
  unfold as7 at h
  unfold wpAnyIn
  split at h
  ·next e=>
   refine ⟨fun _=>hq _ _ _ _ h hf hr,fun i hi=> ?_⟩
   rw [e] at hi;cases hi
  ·next i0 l0 e=>
   refine ⟨fun e2=>(by rw [e] at e2;cases e2),fun i hi=> ?_⟩
   rw [e] at hi
   have hv:=asI h i hi
   unfold wpOpIn
   cases ho:ops[i]? with
   | none=>simp only [ho] at hv
   | some o=>
    simp only [ho] at hv
    have hmo:o∈ops.toList:=by
     have:=Array.mem_of_getElem? ho
     simpa using this
    have hc:=aeI hops hmo
    have hdst:=ac7 hops hmo
    have hnd:=ar7 hdf hmo
    have hmem:∀ t,o.dst=some t ->t∈aaU ops.toList/\t<8000:=fun t ht=>⟨by unfold aaU;exact List.mem_filterMap.2 ⟨o,hmo,ht⟩,Nat.lt_of_lt_of_le (hdst t ht) hN⟩
    refine auJ (B:=if Region.wanted o (yielded ops a.tmps) then o.wpIn (FW r) 0 P a w (wpAnyIn (FW r) 0 P .any ops Q' fuel (listed.setIfInBounds i true)) Q' else (∀ f,o.about P w a.eval=some f ->(FW r).fn f)/\wpAnyIn (FW r) 0 P .any ops Q' fuel (listed.setIfInBounds i true) (a.put o.dst undef) w) hN hops hr hv ?_ ?_
    ·intro T' hs hy hw
     rw [hw,if_pos rfl]
     have hr':=hr.same hs
     have hf':Fr (aaU ops.toList) T0 T':=hf.trans (fun t _=>hs t)
     refine aCp hr' hc hnd hy (fun v w' h'=> ?_) (fun ch w' hch=>hq _ _ _ _ hch hf' hr')
     exact asG hN hops hdf hq fuel _ _ _ _ (hf'.trans (Fr.put _ _ _ _ hmem)) (hr'.put hN hdst v) h'
    ·intro T' hs hn hw
     rw [hw,if_neg (by decide)]
     have hr':=hr.same hs
     have hf':Fr (aaU ops.toList) T0 T':=hf.trans (fun t _=>hs t)
     exact ⟨fun f _=>FW.fn r f,asG hN hops hdf hq fuel _ _ _ _ (hf'.trans (Fr.put _ _ _ _ hmem)) (hr'.put hN hdst undef) hn⟩
theorem aED {D:List Nat} {r:Option Nat} {N:Nat} {c:Code} {l:List (Nat×C1)} {body:(Tr ->World ->Prop) ->Tr ->World ->Prop} {Q':Exit ->Act ->World ->Prop} {T:Tr} {a:Act} {w:World}
  (hW:∀ t∈wr c,t<8000) (hl:okS l) (hr:RelI D N T a)
  (hbody:∀ (next:Tr ->World ->Prop) (next':Act ->World ->Prop) (T1:Tr) (a1:Act) (w1:World),Fr (wr c) T T1 ->RelI D N T1 a1 ->body next T1 w1 ->(∀ T' w' a',next T' w' ->Fr (wr c) T1 T' ->RelI D N T' a' ->next' a' w') ->
   c.wpIn (FW r) 0 P (Exit.then next' Q') a1 w1)
  (h:aAC l (wr c) body T w):(Code.loop c).wpIn (FW r) 0 P Q' a w:=by
 obtain ⟨I,μ,h0,h⟩:=h
 let J:Nat ->Act ->World ->Prop:=fun n a' w'=>∃ T',RelI D N T' a'/\Fr (wr c) T T'/\∃ u:Nat ->Value,ExS l I μ (afh u (agV (wr c) l) T) (fun T'' I' μ'=>(∀ t,T'.get t=T''.get t)/\I' w'/\μ' w'=n)
 have h00:∃ n,J n a w:=by
  obtain ⟨n,hn⟩:=akE l I μ T _ w hl h0 (ah6 T _ _ T (al9 hW) (fun _ _=>rfl))
  exact ⟨n,T,hr,.refl _ _,_,hn⟩
 obtain ⟨n0,h00⟩:=h00
 refine wpIn_loop_ghost J n0 h00 ?_
 rintro n a1 w1 ⟨T1,hr1,hfr,u,hex⟩
 obtain ⟨T2,I',μ',hK,hsame,hI,rfl⟩:=amd l I μ _ _ _ (h u) hex
 have hr2:RelI D N T2 a1:=hr1.same (fun t=>(hsame t).symm)
 have hfr2:Fr (wr c) T T2:=fun t ht=>(hsame t).symm.trans (hfr t ht)
 refine hbody _ _ _ _ _ hfr2 hr2 (hK w1 hI) (fun T3 w3 a3 h3 hf3 hr3=> ?_)
 have hf13:Fr (wr c) T1 T3:=fun t ht=>(hf3 t ht).trans (hsame t).symm
 obtain ⟨m,hm,hex'⟩:=apC hW hl hex (fun _ _ _ h=>h.1) hf13 h3
 exact ⟨m,hm,T3,hr3,hfr2.trans hf3,_,hex'⟩
theorem ayB {D:List Deferred} {r:Option Nat} {ops:Array Oper} {w:World} {i:Nat} {a0 a:Act} {K:Act ->Prop} {K':Act ->World ->Prop} {Q':Exit ->Act ->World ->Prop} (hnd:∀ o,ops[i]? =some o ->∀ c,o.op≠ .defer c) (ht:a0.tmps=a.tmps) (hd:a.defers=D)
  (h:∀ b0 b:Act,b0.tmps=b.tmps ->b.defers=D ->K b0 ->K' b w) (hh:stOp P ops w i K a0):wpOpIn (FW r) 0 P ops Q' i K' a w:=by
 have hput:∀ (d:Option Tmp) (v:Value),(a0.put d v).tmps=(a.put d v).tmps/\(a.put d v).defers=D:=by
  intro d v
  cases d with
  | none=>exact ⟨ht,hd⟩
  | some d=>exact ⟨by simp only [Act.put,ht],hd⟩
 have he:a0.eval=a.eval:=by funext x;cases x<;>simp [Act.eval,ht]
 unfold stOp at hh
 unfold wpOpIn
 cases ho:ops[i]? with
 | none=>simp only [ho] at hh;exact h _ _ ht hd hh
 | some o=>
  simp only [ho] at hh
  dsimp only
  rw [ht] at hh
  split
  ·rename_i hw
   simp only [hw,if_true] at hh
   refine ⟨fun f _=>FW.fn r f,?_⟩
   rw [Oper.semAt_eq _ _ _ (hnd o ho),<- he]
   unfold Oper.still at hh
   generalize (execOp a0.eval o).run P w=res at hh ⊢
   match res with
   | .ok (.value v) w'=>obtain ⟨rfl,hh⟩:=hh;exact h _ _ (hput _ _).1 (hput _ _).2 hh
   | .ok .skip w'=>obtain ⟨rfl,hh⟩:=hh;exact h _ _ (hput _ _).1 (hput _ _).2 hh
   | .ok (.enter f args) w'=>
    obtain ⟨rfl,v,hc,hh⟩:=hh
    refine ⟨FW.some1,FW.calls (hc.mono fun e w'' he=> ?_)⟩
    obtain ⟨rfl,rfl⟩:=he
    exact h _ _ (hput _ _).1 (hput _ _).2 hh
  ·rename_i hw
   simp only [hw] at hh
   exact ⟨fun f _=>FW.fn r f,h _ _ (hput _ _).1 (hput _ _).2 hh⟩
theorem amT {D:List Deferred} {r:Option Nat} {ops:Array Oper} {md:Region.Mode} {w:World} {Q:Act ->Prop} {Q':Exit ->Act ->World ->Prop} (hnd:∀ (i:Nat) o,ops[i]? =some o ->∀ c,o.op≠ .defer c)
  (hQ:∀ a0 a:Act,a0.tmps=a.tmps ->a.defers=D ->Q a0 ->Q' .normal a w):∀ (fuel:Nat) (listed:Array Bool) (a0 a:Act),a0.tmps=a.tmps ->a.defers=D ->
  wpAnyS P md ops w Q fuel listed a0 ->wpAnyIn (FW r) 0 P md ops Q' fuel listed a w
 | 0,_,_,_,ht,hd,h=>⟨h.1,hQ _ _ ht hd h.2⟩
 | fuel+1,_,_,_,ht,hd,h=>⟨fun h0=>hQ _ _ ht hd (h.1 h0),fun i hi=>ayB (hnd i) ht hd (fun b0 b h1 h2 h3=>amT hnd hQ fuel _ b0 b h1 h2 h3) (h.2 i hi)⟩
theorem ayz (hm:P.follows .mixedOrders=true) {N:Nat} (hN:N<=8000) {r:Option Nat} :∀ (n:Nat) (c:Code) (Q:List Nat ->Exit ->Tr ->World ->Prop) (Q':Exit ->Act ->World ->Prop) (D:List Nat) (T:Tr) (a:Act) (w:World),abA P N A c=true ->RelI D N T a ->
  vcI P τ ρ pan A yl N r n c Q D T w ->(∀ D' e T' w' a',Q D' e T' w' ->Fr (wr c) T T' ->RelI D' N T' a' ->Q' e a' w') ->c.wpIn (FW r) 0 P Q' a w:=by
 intro n
 induction n with
 | zero=>intro c Q Q' D T a w _ _ h;exact h.elim
 | succ n ih=>
 intro c
 cases c with
 | skip=>intro Q Q' D T a w _ hr h hq;exact wpIn_skip (hq _ _ _ _ _ h (.refl _ _) hr)
 | label l=>intro Q Q' D T a w _ hr h hq;exact wpIn_label (hq _ _ _ _ _ h (.refl _ _) hr)
 | exit id=>intro Q Q' D T a w _ hr h hq;exact wpIn_exit (hq _ _ _ _ _ h (.refl _ _) hr)
 | ret=>intro Q Q' D T a w _ hr h hq;exact wpIn_ret (hq _ _ _ _ _ h (.refl _ _) hr)
 | region id ops draw=>
  intro Q Q' D T a w hok hr h hq
  unfold abA at hok
  simp only [Bool.and_eq_true] at hok
  obtain ⟨⟨ho,hdf⟩,hlex⟩:=hok
  cases draw with
  | false=>exact wpIn_region_list (asJ hN ho _ _ _ _ ho hdf hr h (fun e T' w' a' h1 h2 h3=>hq _ _ _ _ _ h1 h2 h3))
  | true=>
   refine wpIn_region_any hm ?_
   unfold vcI at h
   dsimp only at h
   cases hall:A.head id==ops.size with
   | true=>
    rw [hall,cond_true] at h hlex
    have hnd:∀ (i:Nat) o,ops[i]? =some o ->∀ c,o.op≠ .defer c:=fun i o hio=>ar7 hdf (by have:=Array.mem_of_getElem? hio;simpa using this)
    simp only [Region.lexB,Bool.and_eq_true] at hlex
    have h1:=aoI (Q':=fun a0=>∀ a1:Act,a0.tmps=a1.tmps ->a1.defers=marks D ->Q' .normal a1 w.drew) hN ho _ _ _ ho hr.rel h (fun T' a0 hd' hf hr' a1 ht hd=>hq _ _ _ _ _ hd' hf ⟨hd,by
     have:=hr'
     exact ⟨rfl,by rw [<- ht];exact this.size,fun t=>by rw [<- ht];exact this.get t⟩⟩)
    have h2:=wpAnyS_lex (md:= .any) hlex.1 ops.toList 0 (Array.replicate ops.size false) _ (by simp) (by simpa using hlex.2) h1
    have h3:wpAnyS P .any ops w.drew (fun a0=>∀ a1:Act,a0.tmps=a1.tmps ->a1.defers=marks D ->Q' .normal a1 w.drew) ops.size (Array.replicate ops.size false) {tmps:=a.tmps,defers:= []} :=by simpa using h2
    exact amT (D:=marks D) hnd (fun a0 a1 ht hd hQ=>hQ a1 ht hd) _ _ {tmps:=a.tmps,defers:= []} a rfl hr.defers h3
   | false=>
    rw [hall,cond_false] at h
    exact asG hN ho hdf (fun e T' w' a' h1 h2 h3=>hq D e T' w' a' h1 h2 h3) _ _ _ _ _ (Fr.refl _ _) hr h
 | seq x y=>
  intro Q Q' D T a w hok hr h hq
  unfold abA at hok
  simp only [Bool.and_eq_true] at hok
  have hx:∀ t,t∈wr x ->t∈wr (.seq x y):=fun t ht=>List.mem_append_left _ ht
  have hy:∀ t,t∈wr y ->t∈wr (.seq x y):=fun t ht=>List.mem_append_right _ ht
  refine wpIn_seq (ih x _ _ _ _ _ _ hok.1 hr h (fun D' e T' w' a' he hf hr'=> ?_))
  cases e with
  | normal=>exact ih y _ _ _ _ _ _ hok.2 hr' he (fun D2 e T2 w2 a2 he' hf' hr2=>hq _ _ _ _ _ he' ((hf.mono hx).trans (hf'.mono hy)) hr2)
  | exit id=>exact hq _ _ _ _ _ he (hf.mono hx) hr'
  | goto l=>exact hq _ _ _ _ _ he (hf.mono hx) hr'
  | ret=>exact hq _ _ _ _ _ he (hf.mono hx) hr'
  | panic ch=>exact hq _ _ _ _ _ he (hf.mono hx) hr'
  | outgrown=>exact hq _ _ _ _ _ he (hf.mono hx) hr'
 | cond c x y=>
  intro Q Q' D T a w hok hr h hq
  unfold abA at hok
  simp only [Bool.and_eq_true] at hok
  unfold vcI at h
  dsimp only at h
  split at h
  ·rename_i t ht
   have ht':a.eval c= .bool t:=by rw [hr.ev];exact ht
   cases t with
   | true=>exact wpIn_cond_true ht' (ih x _ _ _ _ _ _ hok.1 hr h (fun D' e T' w' a' he hf hr'=>hq _ _ _ _ _ he (hf.mono (fun t ht=>List.mem_append_left _ ht)) hr'))
   | false=>exact wpIn_cond_false ht' (ih y _ _ _ _ _ _ hok.2 hr h (fun D' e T' w' a' he hf hr'=>hq _ _ _ _ _ he (hf.mono (fun t ht=>List.mem_append_right _ ht)) hr'))
  ·exact h.elim
 | block id c=>
  intro Q Q' D T a w hok hr h hq
  refine wpIn_block (ih c _ _ _ _ _ _ hok hr h (fun D' e T' w' a' he hf hr'=> ?_))
  cases e with
  | exit id'=>
   replace he:bif Nat.beq id' id then Q D' .normal T' w' else Q D' (.exit id') T' w':=he
   show if id'=id then Q' .normal a' w' else Q' (.exit id') a' w'
   rw [adF] at he
   by_cases e:id'=id
   ·simp only [e,beq_self_eq_true,cond_true] at he;rw [if_pos e];exact hq _ _ _ _ _ he hf hr'
   ·have:(id'==id)=false:=by simpa using e
    rw [this,cond_false] at he;rw [if_neg e];exact hq _ _ _ _ _ he hf hr'
  | normal=>exact hq _ _ _ _ _ he hf hr'
  | goto l=>exact hq _ _ _ _ _ he hf hr'
  | ret=>exact hq _ _ _ _ _ he hf hr'
  | panic ch=>exact hq _ _ _ _ _ he hf hr'
  | outgrown=>exact hq _ _ _ _ _ he hf hr'
 | loop c=>
  intro Q Q' D T a w hok hr h hq
  unfold abA at hok
  simp only [Bool.and_eq_true] at hok
  obtain ⟨⟨hok,hW⟩,hks⟩:=hok
  unfold vcI at h
  dsimp only at h
  refine aED (ar8 hW) (as1 hks) hr (fun next next' T1 a1 w1 hf1 hr1 hb hn=> ?_) h
  refine ih c _ _ _ _ _ _ hok hr1 hb (fun D' e T' w' a' he hf hr'=> ?_)
  cases e with
  | normal=>
   obtain ⟨rfl,he⟩:=he
   exact hn _ _ _ he hf hr'
  | exit id=>exact hq _ _ _ _ _ he (hf1.trans hf) hr'
  | goto l=>exact hq _ _ _ _ _ he (hf1.trans hf) hr'
  | ret=>exact hq _ _ _ _ _ he (hf1.trans hf) hr'
  | panic ch=>exact hq _ _ _ _ _ he (hf1.trans hf) hr'
  | outgrown=>exact hq _ _ _ _ _ he (hf1.trans hf) hr'
 | rangeFunc g ps assign body=>
  intro Q Q' D T a w hok hr h hq
  unfold vcI at h
  dsimp only at h
  cases r with
  | some l=>exact h.elim
  | none=>
   obtain ⟨f,ca,hg,hfb,hcall⟩:=h
   refine wpIn_rangeFunc (fun fn _=> ?_)
   have hc:=hcall fn a.tmps hr.rel.size hr.rel.get
   unfold aju at hfb
   split at hfb
   ·rename_i fun_ hfun
    simp only [Bool.and_eq_true,Bool.not_eq_true',beq_eq_false_iff_ne] at hfb
    obtain ⟨hb1,hb2⟩:=hfb
    have hnone:¬ fun_.body=none:=by intro hx;simp [hx] at hb1
    refine ⟨w.heap.size+1,[{target:= .collected w.heap.size,args:= #[]}],(w.alloc (.deferred (some []))).alloc (.loop (am9 fn a.tmps ps assign body w.heap.size)), {target:= .fn (.func f) ca,args:= #[.func (.yield (w.heap.size+1)) #[] #[]]},(w.alloc (.deferred (some []))).alloc (.loop (am9 fn a.tmps ps assign body w.heap.size)),f, #[.func (.yield (w.heap.size+1)) #[] #[]]++ca,(w.alloc (.deferred (some []))).alloc (.loop (am9 fn a.tmps ps assign body w.heap.size)),run_enterLoop_outer fn a.tmps ps assign body,?_,fun f' _=>trivial,?_,FW.some1 (r:=none),?_⟩
    ·rw [<- hr.ev] at hg
     have hcst:a.eval (.const (.func (.yield (w.heap.size+1)) #[] #[]))= .func (.yield (w.heap.size+1)) #[] #[]:=rfl
     simp [resolve,hg,hcst,Deferred.ofValue]
    ·simp [invoke,callFunc,hfun,hb2,hnone]
    ·refine callsIn_wide.2 (Calls.mono hc fun e w' he=> ?_)
     cases e with
     | panicked ch=>exact he.elim
     | outgrown=>exact he.elim
     | returned v=>
      obtain ⟨lr,hl,hs,he⟩:=he
      refine ⟨lr.pending,_,run_endLoop hl hs,?_⟩
      generalize w'.putObj (w.heap.size+1) (.loop {lr with state:= .exhausted})=wX at he ⊢
      have hr':RelI (w.heap.size::D) N T {a with defers:= [{target:= .collected w.heap.size,args:= #[]}]++a.defers} :=⟨by simp [hr.defers,marks],hr.rel⟩
      split at he
      ·next hp=>rw [hp];exact hq _ _ _ _ _ he (.refl _ _) hr'
      ·next hp=>rw [hp];exact wpIn_ret (hq _ _ _ _ _ he (.refl _ _) hr')
      ·exact he.elim
   ·cases hfb
 | scope c=>intro Q Q' D T a w _ _ h _;unfold vcI at h;exact h.elim
 | goto l=>intro Q Q' D T a w _ _ h _;unfold vcI at h;exact h.elim
 | refuse s=>intro Q Q' D T a w _ _ h _;unfold vcI at h;exact h.elim
def shut:List Nat ->World ->(World ->Prop) ->Prop
 | [],w,f=>f w
 | b::D,w,f=>w.heap[b]? =some (.deferred (some []))/\shut D (w.putObj b (.deferred none)) f
def aIS (P:Program) (τ:TypeId ->K1) (rs:List ResultVar) (K:Value ->World ->Prop):List Nat ->Exit ->Tr ->World ->Prop
 | D,.normal,T,w=>shut D w fun w=>resQ P τ w T rs #[] fun vs=>K (oneOf vs) w
 | D,.ret,T,w=>shut D w fun w=>resQ P τ w T rs #[] fun vs=>K (oneOf vs) w
 | _,_,_,_=>False
def anq (P:Program) (τ:TypeId ->K1) (ρ:TypeId ->Kd) (pan:FuncId ->Bool) (A:Ann) (yl:Nat ->Bool) (fn:Func) (args:Array Value) (K:Value ->World ->Prop) (w:World):Prop:=
 match fn.body with
 | some c=>vcI P τ ρ pan A yl fn.ntmps none 1000 c (aIS P τ fn.results.toList K) [] (afs args.toList 0 .nil) w
 | none=>False
def ana (P:Program) (A:Ann) (fn:Func) (n:Nat):Bool:=match fn.body with
 | some c=>abA P fn.ntmps A c&&Nat.ble fn.ntmps 8000&&Nat.ble n fn.ntmps
 | none=>false
theorem auE {fn:Func} {tmps:Array Value} {R:Ending ->World ->Prop} :∀ {D:List Nat} {w:World} {f:World ->Prop},shut D w f ->(∀ w',f w' ->LeavesIn Fence.wide 0 P fn tmps R [] .returning w') ->LeavesInM Fence.wide 0 P fn tmps R (marks D) .returning w
 | [],w,f,h,hf=>hf w h
 | b::D,w,f,h,hf=>⟨by simp,.inl ⟨b,_,rfl,run_takeDeferred h.1,auE h.2 hf⟩⟩
theorem afQ {g:FuncId} {fn:Func} {args:Array Value} {w:World} {K:Value ->World ->Prop} (hm:P.follows .mixedOrders=true) (hf:P.funcs[g]? =some fn) (hok:ana P A fn args.size=true)
  (h:anq P τ ρ pan A yl fn args K w):Calls P g args w (Ret K):=by
 unfold anq at h
 unfold ana at hok
 split at h
 ·rename_i c hc
  rw [hc] at hok
  simp only [Bool.and_eq_true] at hok
  obtain ⟨⟨hok,hN⟩,hn⟩:=hok
  have hN':fn.ntmps<=8000:=by simpa using hN
  have hn':args.size<=fn.ntmps:=by simpa using hn
  refine (callsIn_wide (n:=0)).1 (callsIn_of_wp_marks (F:=Fence.wide) hf hc trivial ?_)
  refine ayz (r:=none) hm hN' 1000 c _ _ _ _ _ _ hok (RelI.of (Rel.init hN' hn')) h (fun D e T' w' a' he _ hr=> ?_)
  have key:(shut D w' fun w=>resQ P τ w T' fn.results.toList #[] fun vs=>K (oneOf vs) w) ->LeavesInM Fence.wide 0 P fn a'.tmps (Ret K) a'.defers .returning w':=fun h=>by
   rw [hr.defers]
   refine auE h (fun w2 h2=> ?_)
   obtain ⟨vs,h1,h2⟩:=anS hr.rel h2
   exact ⟨_,h1,_,rfl,h2⟩
  cases e with
  | normal=>exact key he
  | ret=>exact key he
  | panic ch=>exact he.elim
  | exit id=>exact he.elim
  | goto l=>exact he.elim
  | outgrown=>exact he.elim
 ·exact h.elim
def ahn (l:Nat) (f:World ->Prop) (W:World):Prop:=∃ r:Loop,W.heap[l]? =some (.loop r)/\r.state= .ready/\f (W.putObj l (.loop {r with state:= .busy}))
def EndR (l:Nat) (j:Option Code) (R:Ending ->World ->Prop) (W:World):Prop:=
 ∃ r:Loop,W.heap[l]? =some (.loop r)/\R (.returned (.bool j.isNone)) (W.putObj l (.loop {r with state:=if j.isNone then .ready else .done,pending:=j}))
def roundEnd (l:Nat) (R:Ending ->World ->Prop):List Nat ->Exit ->Tr ->World ->Prop
 | _,.normal,_,w=>EndR l none R w
 | _,.ret,_,w=>EndR l (some .ret) R w
 | _,.exit id,_,w=>EndR l (some (.exit id)) R w
 | _,_,_,_=>False
def af0 (P:Program) (τ:TypeId ->K1) (ρ:TypeId ->Kd) (pan:FuncId ->Bool) (A:Ann) (yl:Nat ->Bool) (N:Nat) (l:Nat) (assign body:Code) (T:Tr) (W:World) (R:Ending ->World ->Prop):Prop:=
 vcI P τ ρ pan A yl N (some l) 1000 assign (fun D e T1 W1=>match e with
  | .normal=>ahn l (vcI P τ ρ pan A yl N (some l) 1000 body (roundEnd l R) D T1) W1
  | _=>False) [] T W
def rfOf:Code ->Option (Code×Code)
 | .rangeFunc _ _ a b=>some (a,b)
 | .seq x y=>match rfOf x with
  | some p=>some p
  | none=>rfOf y
 | .cond _ x y=>match rfOf x with
  | some p=>some p
  | none=>rfOf y
 | .block _ c=>rfOf c
 | _=>none
def aiB (c:Option Code):Code:=((c.bind rfOf).map (·.1)).getD .skip
def agX (c:Option Code):Code:=((c.bind rfOf).map (·.2)).getD .skip
noncomputable def ah7:List (Tmp×Value) ->Tr ->Tr
 | [],T=>T
 | (t,v)::l,T=>ah7 l (T.put (some t) v)
theorem aCw {l N:Nat} {r:Loop} {args:Array Value} {T:Tr} {W:World} {R:Ending ->World ->Prop} (hm:P.follows .mixedOrders=true) (hN:N<=8000) (hl:W.heap[l]? =some (.loop r)) (hsz:args.size=r.params.size)
  (hN2:r.tmps.size=N) (hT:TmOf T r.tmps) (hps:∀ t∈r.params.toList,t<N) (hoka:abA P N A r.assign=true) (hokb:abA P N A r.body=true)
  (h:af0 P τ ρ pan A yl N l r.assign r.body (ah7 (r.params.zip args).toList T) W R):YieldAt Fence.wide 0 P l args W R:=by
 refine ⟨_,_,_,_,run_yield hl hsz,roundIn_of_wpIn trivial ?_⟩
 have hrel:∀ (ps:List (Tmp×Value)) (tm:Array Value) (T:Tr),(∀ p∈ps,p.1<N) ->tm.size=N ->TmOf T tm ->
   RelI [] N (ah7 ps T) {tmps:=ps.foldl (fun tmps (p:Tmp×Value)=>tmps.setIfInBounds p.1 p.2) tm,defers:= []} :=by
  intro ps
  induction ps with
  | nil=>intro tm T _ hs hT;exact ⟨rfl,⟨rfl,hs,hT⟩⟩
  | cons p ps ih=>
   intro tm T hp hs hT
   have h1:RelI [] N T {tmps:=tm,defers:= []} :=⟨rfl,⟨rfl,hs,hT⟩⟩
   have h2:=h1.put hN (d:=some p.1) (fun t ht=>by cases ht;exact hp p (List.mem_cons_self ..)) p.2
   exact ih _ _ (fun q hq=>hp q (List.mem_cons_of_mem _ hq)) h2.rel.size h2.rel.get
 have h0:=hrel (r.params.zip args).toList r.tmps T (fun p hp=>hps p.1 (by
  rw [Array.toList_zip] at hp
  exact (List.of_mem_zip (a:=p.1) (b:=p.2) hp).1)) hN2 hT
 have hf:(r.params.zip args).foldl (fun tmps (p:Tmp×Value)=>tmps.setIfInBounds p.1 p.2) r.tmps=(r.params.zip args).toList.foldl (fun tmps (p:Tmp×Value)=>tmps.setIfInBounds p.1 p.2) r.tmps:=by
  rw [Array.foldl_toList]
 rw [<- hf] at h0
 refine ayz (r:=some l) hm hN 1000 _ _ _ _ _ _ _ hoka h0 h (fun D e T1 W1 a1 he hfr hr1=> ?_)
 cases e with
 | normal=>
  obtain ⟨r1,hl1,hs1,he⟩:=he
  refine ⟨_,run_beginRound hl1 hs1,?_⟩
  refine ayz (r:=some l) hm hN 1000 _ _ _ _ _ _ _ hokb hr1 he (fun D2 e2 T2 W2 a2 he2 _ _=> ?_)
  cases e2 with
  | normal=>obtain ⟨r2,hl2,hR⟩:=he2;exact ⟨_,_,run_endRound none hl2,hR⟩
  | ret=>obtain ⟨r2,hl2,hR⟩:=he2;exact ⟨_,_,run_endRound (some .ret) hl2,hR⟩
  | exit id=>obtain ⟨r2,hl2,hR⟩:=he2;exact ⟨_,_,run_endRound (some (.exit id)) hl2,hR⟩
  | goto t=>exact he2.elim
  | panic ch=>exact he2.elim
  | outgrown=>exact he2.elim
 | exit id=>exact he.elim
 | goto t=>exact he.elim
 | ret=>exact he.elim
 | panic ch=>exact he.elim
 | outgrown=>exact he.elim
end
end Go.Vc
end
section
namespace Go.Mp
open Go Go.Vc
noncomputable abbrev P:Program:=Go.Proofs.Tryz.prog
abbrev adJ:TypeId:=3
abbrev aeL:TypeId:=4
abbrev amS:TypeId:=5
abbrev asE:TypeId:=9
abbrev adv:TypeId:=22
abbrev axA:TypeId:=30
abbrev al5:TypeId:=35
abbrev aff:TypeId:=49
abbrev ajK:TypeId:=53
abbrev aCa:TypeId:=86
abbrev aiv:TypeId:=121
abbrev avZ:TypeId:=143
abbrev aoG:TypeId:=170
abbrev ahf:TypeId:=173
abbrev aic:TypeId:=181
abbrev akC:TypeId:=188
abbrev apU:TypeId:=215
abbrev agO:TypeId:=256
abbrev aao:FuncId:=15
abbrev abD:FuncId:=16
abbrev aa1:FuncId:=17
abbrev agy:FuncId:=18
abbrev ac1:FuncId:=19
abbrev aa6:FuncId:=20
abbrev abt:FuncId:=21
abbrev abW:FuncId:=22
abbrev acU:FuncId:=23
abbrev aae:FuncId:=24
abbrev aaQ:FuncId:=25
abbrev afD:FuncId:=26
abbrev ad5:FuncId:=27
abbrev aaZ:FuncId:=28
abbrev aag:FuncId:=29
abbrev ad6:FuncId:=30
abbrev aeQ:FuncId:=31
abbrev ad4:FuncId:=32
abbrev ab4:FuncId:=33
abbrev aci:FuncId:=34
abbrev aam:FuncId:=35
abbrev afC:FuncId:=36
abbrev ac6:FuncId:=37
abbrev ae9:FuncId:=38
abbrev afK:FuncId:=39
abbrev ae3:FuncId:=40
abbrev abN:FuncId:=43
abbrev ahx:FuncId:=48
abbrev akz:FuncId:=57
abbrev adL:FuncId:=58
abbrev ajh:FuncId:=59
abbrev aky:FuncId:=60
abbrev aiA:FuncId:=61
abbrev aji:FuncId:=62
abbrev afG:FuncId:=63
abbrev aif:FuncId:=64
abbrev afE:FuncId:=65
abbrev ahu:FuncId:=66
abbrev adI:FuncId:=67
abbrev afk:FuncId:=68
abbrev abK:FuncId:=69
abbrev aiG:FuncId:=70
abbrev acj:FuncId:=71
abbrev afT:FuncId:=72
abbrev afS:FuncId:=73
abbrev ahb:FuncId:=74
abbrev ajl:FuncId:=75
abbrev acX:FuncId:=76
abbrev adH:FuncId:=77
abbrev afJ:FuncId:=78
abbrev ae5:FuncId:=79
abbrev ae4:FuncId:=80
abbrev acP:FuncId:=81
abbrev agD:FuncId:=82
abbrev afj:FuncId:=83
abbrev ab5:FuncId:=84
abbrev afm:FuncId:=85
abbrev ac4:FuncId:=86
abbrev ahv:FuncId:=87
abbrev ae6:FuncId:=88
abbrev afF:FuncId:=89
abbrev adq:FuncId:=90
abbrev ahA:FuncId:=91
abbrev afl:FuncId:=92
abbrev aea:FuncId:=93
abbrev afr:FuncId:=94
abbrev aeH:FuncId:=95
abbrev acd:FuncId:=96
abbrev ae8:FuncId:=97
abbrev ahe:FuncId:=98
abbrev agE:FuncId:=99
abbrev afo:FuncId:=100
abbrev ahy:FuncId:=101
abbrev abG:FuncId:=102
abbrev afW:FuncId:=104
abbrev ahi:FuncId:=105
abbrev ag9:FuncId:=125
abbrev aeR:FuncId:=127
abbrev anL:FuncId:=128
abbrev amu:FuncId:=129
abbrev akk:FuncId:=130
abbrev afn:FuncId:=131
abbrev aha:FuncId:=132
abbrev acF:FuncId:=133
abbrev ahc:FuncId:=134
abbrev aeD:FuncId:=135
abbrev aiE:FuncId:=136
abbrev agz:FuncId:=137
abbrev agA:FuncId:=138
abbrev ahC:FuncId:=139
abbrev agF:FuncId:=140
abbrev ajj:FuncId:=141
abbrev ah1:FuncId:=142
abbrev aaJ:FuncId:=143
abbrev abL:FuncId:=144
abbrev abx:FuncId:=145
abbrev aeo:FuncId:=146
abbrev ad7:FuncId:=147
abbrev ahZ:FuncId:=148
abbrev aeS:FuncId:=149
abbrev afH:FuncId:=150
abbrev aeE:FuncId:=151
abbrev agw:FuncId:=152
abbrev aig:FuncId:=153
abbrev afI:FuncId:=154
abbrev ac5:FuncId:=155
abbrev aep:FuncId:=156
abbrev ach:FuncId:=157
abbrev acG:FuncId:=158
abbrev ae1:FuncId:=159
abbrev ah0:FuncId:=160
abbrev afp:FuncId:=161
abbrev aih:FuncId:=162
abbrev aeC:FuncId:=163
abbrev aie:FuncId:=164
abbrev aeG:FuncId:=165
abbrev abX:FuncId:=166
abbrev adC:FuncId:=167
abbrev acB:FuncId:=168
abbrev afz:FuncId:=169
abbrev aeF:FuncId:=170
abbrev agC:FuncId:=171
abbrev agB:FuncId:=172
abbrev adk:FuncId:=173
abbrev adb:FuncId:=174
abbrev aen:FuncId:=175
abbrev aga:FuncId:=177
abbrev ads:FuncId:=178
abbrev anK:FuncId:=214
abbrev abY:FuncId:=215
abbrev afU:FuncId:=216
abbrev ac2:FuncId:=217
abbrev afV:FuncId:=218
abbrev ahw:FuncId:=219
abbrev aid:FuncId:=220
abbrev ahB:FuncId:=221
abbrev agG:FuncId:=222
abbrev ae7:FuncId:=223
abbrev agH:FuncId:=224
abbrev ajk:FuncId:=225
abbrev aiF:FuncId:=226
abbrev aiz:FuncId:=227
abbrev agK:FuncId:=228
abbrev afq:FuncId:=229
abbrev ad9:FuncId:=230
abbrev ad8:FuncId:=231
abbrev abH:FuncId:=232
abbrev agJ:FuncId:=233
abbrev afR:FuncId:=234
abbrev ahh:FuncId:=235
abbrev adj:FuncId:=236
abbrev aiD:FuncId:=237
abbrev akj:FuncId:=238
abbrev agI:FuncId:=239
abbrev ahz:FuncId:=240
abbrev abh:FuncId:=242
abbrev acQ:FuncId:=243
abbrev abj:FuncId:=265
abbrev aec:FuncId:=266
abbrev agx:FuncId:=267
abbrev akl:FuncId:=268
abbrev adr:FuncId:=269
abbrev aeq:FuncId:=270
abbrev akL:FuncId:=271
abbrev acI:FuncId:=272
abbrev ae2:FuncId:=273
abbrev ajf:FuncId:=274
abbrev alY:FuncId:=275
abbrev adM:FuncId:=276
abbrev aiy:FuncId:=277
abbrev ajg:FuncId:=278
abbrev abT:FuncId:=287
abbrev abu:FuncId:=288
abbrev amt:FuncId:=289
abbrev abp:FuncId:=291
abbrev aa2:FuncId:=292
abbrev aeb:FuncId:=304
abbrev acH:FuncId:=305
abbrev abM:FuncId:=311
abbrev abf:FuncId:=312
noncomputable abbrev Chk:Checked:=Go.Proofs.Tryz.checked
def tauL:List K1:= [.one .raw,.one .raw,.one (.int .i64),.one (.int .i64),.one .bool,.one (.int .u8),.one (.int .u8),.agg [.int .i64,.int .i64,.bool,.int .u8],.agg
  [.int .i64,.int .i64,.bool,.int .u8],.one .str,.one .str,.one .str,.one (.int .u64),.agg [.str,.int .u64],.agg [.str,.int .u64],.one .ptr,.one .ptr,.one .ptr,.agg
  [.ptr],.agg [.ptr],.one .raw,.one (.int .i32),.one .slice,.one .raw,.one .ptr,.one .raw,.one (.int .i64),.one .raw,.one .raw,.one .raw,.one .slice,.one .raw,.one
  .raw,.one .raw,.agg [.int .i64,.int .i64],.agg [.int .i64,.int .i64],.one (.int .i64),.agg [.int .i64,.int .i64,.int .i64,.int .i64,.int .i64,.int .i64,.int .i64,
  .bool,.bool],.agg [.int .i64,.int .i64,.int .i64,.int .i64,.int .i64,.int .i64,.int .i64,.bool,.bool],.one .raw,.one .raw,.one .raw,.one .raw,.one .raw,.one
  .raw,.one .raw,.one .raw,.one .raw,.one .raw,.one .slice,.one .raw,.one .raw,.agg [.int .i64,.int .i64,.int .i64,.int .i64,.int .i64,.int .i64],.agg [.int .i64,
  .int .i64,.int .i64,.int .i64,.int .i64,.int .i64],.one .raw,.one .raw,.one .raw,.one .raw,.one .raw,.one .raw,.one .ptr,.one .raw,.one .raw,.one .raw,.one .raw,
  .one .raw,.one .raw,.one .raw,.one .raw,.one .raw,.one .raw,.one .raw,.one .ptr,.one .raw,.one .raw,.one .slice,.agg [.slice],.agg [.slice],.one .ptr,.one .ptr,
  .one .ptr,.one .ptr,.one .ptr,.one .ptr,.one .ptr,.one .ptr,.one .slice,.agg [.ptr,.ptr,.ptr,.ptr,.ptr,.ptr,.ptr,.ptr,.ptr,.ptr,.ptr,.slice,.slice,.slice,
  .slice],.agg [.ptr,.ptr,.ptr,.ptr,.ptr,.ptr,.ptr,.ptr,.ptr,.ptr,.ptr,.slice,.slice,.slice,.slice],.agg [.slice,.slice,.slice,.slice],.agg [.slice,.slice,
  .slice,.slice],.one .raw,.one .raw,.agg [.slice,.slice],.agg [.slice,.slice],.one .slice,.agg [.slice,.slice],.agg [.slice,.slice],.one .raw,.one .raw,.one .raw,
  .one .raw,.one .ptr,.one .ptr,.one .ptr,.agg [.ptr,.ptr,.ptr],.agg [.ptr,.ptr,.ptr],.one .raw,.one .ptr,.one .raw,.one .ptr,.one .raw,.one .ptr,.one .raw,.one
  .ptr,.one .raw,.one .map,.one .slice,.agg [.ptr,.ptr,.ptr,.ptr,.ptr,.ptr,.ptr,.ptr,.ptr,.ptr,.ptr,.map,.slice,.slice],.agg [.ptr,.ptr,.ptr,.ptr,.ptr,.ptr,
  .ptr,.ptr,.ptr,.ptr,.ptr,.map,.slice,.slice],.one .raw,.one .slice,.one .raw,.one .raw,.one .raw,.agg [.int .i64,.int .i64,.bool],.agg [.int .i64,.int .i64,
  .bool],.one .raw,.one .raw,.one .raw,.one .raw,.one .raw,.one .raw,.one .raw,.one .ptr,.one .raw,.one .raw,.one .raw,.one .raw,.one .raw,.one .raw,.one (.int
  .u64),.one .raw,.one .slice,.agg [.slice],.agg [.slice],.agg [.int .i64,.bool],.agg [.int .i64,.bool],.one .raw,.agg [.ptr,.ptr],.one .raw,.one .raw,.one .raw,
  .one .raw,.one .raw,.one .raw,.one .raw,.one .raw,.one .raw,.one .slice,.agg [.slice],.agg [.slice],.one .raw,.agg [.int .i64,.int .i64,.int .i64,.int .i64,.int
  .i64,.int .i64,.int .i64,.bool,.bool,.bool],.agg [.int .i64,.int .i64,.int .i64,.int .i64,.int .i64,.int .i64,.int .i64,.bool,.bool,.bool],.agg [.slice],.agg
  [.slice],.one .raw,.one .raw,.one .raw,.one .map,.agg [.slice,.map,.int .i64],.agg [.slice,.map,.int .i64],.one .map,.agg [.map],.agg [.map],.agg [.int .i64,.int
  .i64],.agg [.int .i64,.int .i64],.one .raw,.one .raw,.one .raw,.one .map,.one .map,.one .map,.agg [.map,.map,.map,.int .i64],.agg [.map,.map,.map,.int .i64],
  .one .raw,.agg [.int .i64,.int .i64],.agg [.int .i64,.int .i64],.one .raw,.one .ptr,.one .raw,.one .raw,.one .raw,.one .raw,.one .ptr,.one .slice,.agg [.int .i64,
  .int .i64,.int .i64],.agg [.int .i64,.int .i64,.int .i64],.one .raw,.one .raw,.one .raw,.one .raw,.agg [.int .i64,.int .i64,.int .i64,.int .i64],.agg [.int .i64,
  .int .i64,.int .i64,.int .i64],.one .raw,.one .raw,.one .raw,.one .raw,.one .raw,.one .raw,.one .raw,.one .raw,.one .raw,.agg [.int .i64,.int .i64],.agg [.int
  .i64,.int .i64],.one .raw,.one .raw,.one .raw,.one .raw,.one .raw,.one .raw,.one .raw,.one .raw,.one .raw,.one .raw,.one .raw,.one .raw,.one .raw,.one .raw,.one
  .raw,.one .ptr,.agg [.ptr],.agg [.ptr],.one .raw,.agg [.slice],.agg [.slice],.agg [.slice,.slice],.agg [.slice,.slice],.one .raw,.one .raw,.one .slice,.agg
  [.slice],.agg [.slice],.arr 16 .u8,.arr 16 .u8,.one .raw,.one .raw,.one .raw,.one .raw,.one .raw,.one .raw,.one .raw,.one .raw,.one .raw,.one .raw,.one .slice,
  .one .raw,.one .raw,.one .raw,.agg [.int .i64,.int .u64],.agg [.int .i64,.int .u64],.one .raw,.one .raw,.one .raw,.one .raw,.one .ptr,.one .raw,.one .raw,.one
  .raw,.one .raw,.one .raw,.one .raw,.agg [.bool,.bool,.bool,.bool,.bool,.bool,.bool,.bool,.bool,.bool,.bool,.bool,.bool,.bool,.bool,.bool,.bool,.bool,.bool,
  .bool,.bool,.bool,.bool,.bool,.bool,.bool,.bool,.bool,.bool,.bool,.bool,.bool,.bool,.bool,.bool,.bool,.bool,.bool,.bool,.bool,.bool,.bool,.bool,.bool,
  .bool,.bool,.bool,.bool,.bool,.bool,.bool,.bool,.bool,.bool,.bool,.bool,.bool,.bool,.bool,.bool,.bool,.bool,.bool,.bool],.agg [.int .i64,.slice],.agg [.int
  .i64,.slice],.one .raw,.agg [.int .i64,.int .i64,.int .i64],.agg [.int .i64,.int .i64,.int .i64],.agg [.int .i64,.int .i64,.str],.agg [.int .i64,.int .i64,.str],
  .one .slice,.one .raw,.one .raw,.one .raw,.one (.int .u64),.one .raw,.one .raw,.one .raw,.one .raw,.one .raw,.one .raw,.one .raw,.one .raw,.one .raw,.one .raw,
  .one .raw,.agg [.int .i64,.int .i64,.int .i64],.one .raw,.one .raw,.one .raw,.one .raw,.one .raw,.one .raw,.one .raw,.one .raw,.one .raw,.arr 64 .u8,.one .raw,
  .one (.int .i64),.one .raw,.one .raw,.one .raw,.one .raw,.one .raw,.one .raw,.one (.int .u32),.one (.int .u64),.one .raw,.one .raw,.one .raw,.one .ptr,.one .raw,
  .one .ptr,.one .raw,.one .raw,.agg [.ptr,.ptr,.ptr,.str],.agg [.ptr,.ptr,.ptr,.str],.agg [],.agg [],.agg [],.one (.int .u8),.one (.int .u8),.one .raw,.one .ptr,
  .one (.int .i32),.one (.int .i32),.agg [.int .u64,.int .u64,.int .u32,.int .u8,.int .u8,.int .u8,.int .u8,.raw,.ptr,.int .i32,.int .i32],.agg [.int .u64,.int .u64,
  .int .u32,.int .u8,.int .u8,.int .u8,.int .u8,.raw,.ptr,.int .i32,.int .i32],.one .raw]
def tau (t:TypeId):K1:=tauL.getD t (.one .raw)
def rhoL:List Kd:= [.tup [],.k (.one .raw),.k (.one (.int .i64)),.k (.one (.int .i64)),.k (.one .bool),.k (.one (.int .u8)),.k (.one (.int .u8)),.k (.agg [.int .i64,.int
  .i64,.bool,.int .u8]),.k (.agg [.int .i64,.int .i64,.bool,.int .u8]),.k (.one .str),.k (.one .str),.k (.one .str),.k (.one (.int .u64)),.k (.agg [.str,.int .u64]),
  .k (.agg [.str,.int .u64]),.k (.one .ptr),.k (.one .ptr),.k (.one .ptr),.k (.agg [.ptr]),.k (.agg [.ptr]),.k (.one .raw),.k (.one (.int .i32)),.k (.one .slice),.k
  (.one .raw),.k (.one .ptr),.k (.one .raw),.k (.one (.int .i64)),.tup [.one (.int .i64),.one (.int .i64),.one (.int .i64)],.k (.one .raw),.k (.one .raw),.k (.one
  .slice),.tup [.one (.int .u8),.one (.int .i64)],.k (.one .raw),.k (.one .raw),.k (.agg [.int .i64,.int .i64]),.k (.agg [.int .i64,.int .i64]),.k (.one (.int .i64)),.k
  (.agg [.int .i64,.int .i64,.int .i64,.int .i64,.int .i64,.int .i64,.int .i64,.bool,.bool]),.k (.agg [.int .i64,.int .i64,.int .i64,.int .i64,.int .i64,.int .i64,
  .int .i64,.bool,.bool]),.tup [.agg [.int .i64,.int .i64,.int .i64,.int .i64,.int .i64,.int .i64,.int .i64,.bool,.bool],.one (.int .i64)],.k (.one .raw),.k (.one
  .raw),.tup [.one (.int .i64),.one (.int .i64)],.k (.one .raw),.k (.one .raw),.k (.one .raw),.k (.one .raw),.k (.one .raw),.k (.one .raw),.k (.one .slice),.k (.one
  .raw),.k (.one .raw),.k (.agg [.int .i64,.int .i64,.int .i64,.int .i64,.int .i64,.int .i64]),.k (.agg [.int .i64,.int .i64,.int .i64,.int .i64,.int .i64,.int
  .i64]),.k (.one .raw),.k (.one .raw),.k (.one .raw),.k (.one .raw),.k (.one .raw),.k (.one .raw),.k (.one .ptr),.k (.one .raw),.k (.one .raw),.k (.one .raw),.k (.one
  .raw),.k (.one .raw),.k (.one .raw),.k (.one .raw),.k (.one .raw),.tup [.one (.int .i64),.one (.int .i64)],.k (.one .raw),.k (.one .raw),.k (.one .ptr),.k (.one .raw),
  .k (.one .raw),.k (.one .slice),.k (.agg [.slice]),.k (.agg [.slice]),.k (.one .ptr),.k (.one .ptr),.k (.one .ptr),.k (.one .ptr),.k (.one .ptr),.k (.one .ptr),.k
  (.one .ptr),.k (.one .ptr),.k (.one .slice),.k (.agg [.ptr,.ptr,.ptr,.ptr,.ptr,.ptr,.ptr,.ptr,.ptr,.ptr,.ptr,.slice,.slice,.slice,.slice]),.k (.agg [.ptr,
  .ptr,.ptr,.ptr,.ptr,.ptr,.ptr,.ptr,.ptr,.ptr,.ptr,.slice,.slice,.slice,.slice]),.k (.agg [.slice,.slice,.slice,.slice]),.k (.agg [.slice,.slice,.slice,
  .slice]),.k (.one .raw),.k (.one .raw),.k (.agg [.slice,.slice]),.k (.agg [.slice,.slice]),.k (.one .slice),.k (.agg [.slice,.slice]),.k (.agg [.slice,.slice]),.tup
  [.one (.int .i64),.one (.int .i64),.one (.int .i64),.one (.int .i64),.one .bool],.k (.one .raw),.k (.one .raw),.k (.one .raw),.k (.one .ptr),.k (.one .ptr),.k (.one
  .ptr),.k (.agg [.ptr,.ptr,.ptr]),.k (.agg [.ptr,.ptr,.ptr]),.k (.one .raw),.k (.one .ptr),.k (.one .raw),.k (.one .ptr),.k (.one .raw),.k (.one .ptr),.k (.one
  .raw),.k (.one .ptr),.k (.one .raw),.k (.one .map),.k (.one .slice),.k (.agg [.ptr,.ptr,.ptr,.ptr,.ptr,.ptr,.ptr,.ptr,.ptr,.ptr,.ptr,.map,.slice,.slice]),.k
  (.agg [.ptr,.ptr,.ptr,.ptr,.ptr,.ptr,.ptr,.ptr,.ptr,.ptr,.ptr,.map,.slice,.slice]),.k (.one .raw),.k (.one .slice),.tup [.one (.int .i64),.one .bool],.k (.one
  .raw),.k (.one .raw),.k (.agg [.int .i64,.int .i64,.bool]),.k (.agg [.int .i64,.int .i64,.bool]),.k (.one .raw),.k (.one .raw),.k (.one .raw),.tup [.one .str,.one
  (.int .i64)],.k (.one .raw),.k (.one .raw),.k (.one .raw),.k (.one .ptr),.k (.one .raw),.k (.one .raw),.k (.one .raw),.k (.one .raw),.k (.one .raw),.k (.one .raw),.k
  (.one (.int .u64)),.k (.one .raw),.k (.one .slice),.k (.agg [.slice]),.k (.agg [.slice]),.k (.agg [.int .i64,.bool]),.k (.agg [.int .i64,.bool]),.k (.one .raw),.k
  (.agg [.ptr,.ptr]),.k (.one .raw),.k (.one .raw),.k (.one .raw),.k (.one .raw),.k (.one .raw),.k (.one .raw),.k (.one .raw),.k (.one .raw),.k (.one .raw),.k (.one
  .slice),.k (.agg [.slice]),.k (.agg [.slice]),.k (.one .raw),.k (.agg [.int .i64,.int .i64,.int .i64,.int .i64,.int .i64,.int .i64,.int .i64,.bool,.bool,.bool]),.k
  (.agg [.int .i64,.int .i64,.int .i64,.int .i64,.int .i64,.int .i64,.int .i64,.bool,.bool,.bool]),.k (.agg [.slice]),.k (.agg [.slice]),.k (.one .raw),.k (.one
  .raw),.k (.one .raw),.k (.one .map),.k (.agg [.slice,.map,.int .i64]),.k (.agg [.slice,.map,.int .i64]),.k (.one .map),.k (.agg [.map]),.k (.agg [.map]),.k (.agg
  [.int .i64,.int .i64]),.k (.agg [.int .i64,.int .i64]),.k (.one .raw),.k (.one .raw),.k (.one .raw),.k (.one .map),.k (.one .map),.k (.one .map),.k (.agg [.map,.map,
  .map,.int .i64]),.k (.agg [.map,.map,.map,.int .i64]),.k (.one .raw),.k (.agg [.int .i64,.int .i64]),.k (.agg [.int .i64,.int .i64]),.k (.one .raw),.k (.one .ptr),
  .k (.one .raw),.tup [.agg [.int .i64,.int .i64],.one .bool],.k (.one .raw),.k (.one .raw),.k (.one .ptr),.k (.one .slice),.k (.agg [.int .i64,.int .i64,.int .i64]),.k
  (.agg [.int .i64,.int .i64,.int .i64]),.k (.one .raw),.k (.one .raw),.k (.one .raw),.k (.one .raw),.k (.agg [.int .i64,.int .i64,.int .i64,.int .i64]),.k (.agg [.int
  .i64,.int .i64,.int .i64,.int .i64]),.k (.one .raw),.k (.one .raw),.tup [.one .str,.one .bool],.k (.one .raw),.k (.one .raw),.k (.one .raw),.k (.one .raw),.k (.one
  .raw),.k (.one .raw),.k (.agg [.int .i64,.int .i64]),.k (.agg [.int .i64,.int .i64]),.k (.one .raw),.k (.one .raw),.k (.one .raw),.k (.one .raw),.k (.one .raw),.tup
  [.one (.int .i64),.one (.int .i64),.one .bool],.k (.one .raw),.k (.one .raw),.k (.one .raw),.k (.one .raw),.k (.one .raw),.k (.one .raw),.k (.one .raw),.k (.one .raw),
  .k (.one .raw),.k (.one .ptr),.k (.agg [.ptr]),.k (.agg [.ptr]),.k (.one .raw),.k (.agg [.slice]),.k (.agg [.slice]),.k (.agg [.slice,.slice]),.k (.agg [.slice,
  .slice]),.k (.one .raw),.k (.one .raw),.k (.one .slice),.k (.agg [.slice]),.k (.agg [.slice]),.k (.arr 16 .u8),.k (.arr 16 .u8),.k (.one .raw),.k (.one .raw),.k (.one
  .raw),.k (.one .raw),.k (.one .raw),.k (.one .raw),.k (.one .raw),.k (.one .raw),.k (.one .raw),.k (.one .raw),.k (.one .slice),.tup [.one (.int .u64),.one (.int
  .u64)],.k (.one .raw),.k (.one .raw),.k (.agg [.int .i64,.int .u64]),.k (.agg [.int .i64,.int .u64]),.k (.one .raw),.k (.one .raw),.k (.one .raw),.k (.one .raw),.k
  (.one .ptr),.k (.one .raw),.tup [.one .slice,.one (.int .i64)],.k (.one .raw),.k (.one .raw),.k (.one .raw),.k (.one .raw),.k (.agg [.bool,.bool,.bool,.bool,.bool,
  .bool,.bool,.bool,.bool,.bool,.bool,.bool,.bool,.bool,.bool,.bool,.bool,.bool,.bool,.bool,.bool,.bool,.bool,.bool,.bool,.bool,.bool,.bool,.bool,.bool,
  .bool,.bool,.bool,.bool,.bool,.bool,.bool,.bool,.bool,.bool,.bool,.bool,.bool,.bool,.bool,.bool,.bool,.bool,.bool,.bool,.bool,.bool,.bool,.bool,.bool,
  .bool,.bool,.bool,.bool,.bool,.bool,.bool,.bool,.bool]),.k (.agg [.int .i64,.slice]),.k (.agg [.int .i64,.slice]),.k (.one .raw),.k (.agg [.int .i64,.int .i64,
  .int .i64]),.k (.agg [.int .i64,.int .i64,.int .i64]),.k (.agg [.int .i64,.int .i64,.str]),.k (.agg [.int .i64,.int .i64,.str]),.k (.one .slice),.k (.one .raw),.k
  (.one .raw),.k (.one .raw),.k (.one (.int .u64)),.k (.one .raw),.k (.one .raw),.k (.one .raw),.k (.one .raw),.k (.one .raw),.k (.one .raw),.tup [.one (.int .i64),.one
  (.int .u64)],.k (.one .raw),.k (.one .raw),.k (.one .raw),.k (.one .raw),.k (.agg [.int .i64,.int .i64,.int .i64]),.k (.one .raw),.k (.one .raw),.k (.one .raw),.k
  (.one .raw),.k (.one .raw),.tup [.one (.int .u64),.one (.int .i64)],.k (.one .raw),.k (.one .raw),.k (.one .raw),.k (.arr 64 .u8),.k (.one .raw),.k (.one (.int .i64)),
  .tup [.one (.int .i64),.one (.int .i64)],.k (.one .raw),.k (.one .raw),.k (.one .raw),.k (.one .raw),.k (.one .raw),.k (.one (.int .u32)),.k (.one (.int .u64)),.k (.one
  .raw),.k (.one .raw),.k (.one .raw),.k (.one .ptr),.k (.one .raw),.k (.one .ptr),.k (.one .raw),.k (.one .raw),.k (.agg [.ptr,.ptr,.ptr,.str]),.k (.agg [.ptr,.ptr,
  .ptr,.str]),.k (.agg []),.k (.agg []),.k (.agg []),.k (.one (.int .u8)),.k (.one (.int .u8)),.k (.one .raw),.k (.one .ptr),.k (.one (.int .i32)),.k (.one (.int .i32)),
  .k (.agg [.int .u64,.int .u64,.int .u32,.int .u8,.int .u8,.int .u8,.int .u8,.raw,.ptr,.int .i32,.int .i32]),.k (.agg [.int .u64,.int .u64,.int .u32,.int .u8,.int
  .u8,.int .u8,.int .u8,.raw,.ptr,.int .i32,.int .i32]),.k (.one .raw)]
def rho (t:TypeId):Kd:=rhoL.getD t (.k (.one .raw))
abbrev pe (v:Value):PanicEntry:= {v:=v,recovered:=false}
def pan (f:FuncId):Bool:= [].contains f
theorem mixed:P.follows .mixedOrders=true:=Checked.mixed Go.Proofs.Tryz.checked
end Go.Mp
end
section
namespace Go.Vc
open Go
abbrev Iv (n:Int):Value:= .int .i64 n
abbrev Sv (s:Sl):Value:= .slice s.p s.n s.c
abbrev Pv (a:Option Addr):Value:= .pointer a
end Go.Vc
namespace Go.Mp
open Go Go.Vc
theorem ofVc {A:Ann} {g:FuncId} {fn:Func} {args:Array Value} {w:World} {K:Value ->World ->Prop} {S:Prop} (hf:P.funcs[g]? =some fn) (hok:okFn P A fn args.size=true) (hv:vcFn P tau rho pan A fn args K (fun _ _=>False) w=S) (h:S):Calls P g args w (Ret K):=
 anG mixed hf hok (by rw [hv];exact h)
end Go.Mp
end
