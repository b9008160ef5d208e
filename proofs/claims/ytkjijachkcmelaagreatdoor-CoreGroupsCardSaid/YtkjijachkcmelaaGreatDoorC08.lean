/- Part of a proof about the core: of its walks and plain laws. -/
import Derived.Test.YtkjijachkcmelaaGreatDoorC07
import Derived.Shelf.Slices.Clone
import Derived.Test.YtkjijachkcmelaaGreatDoorProg
set_option linter.all false
section
namespace Go.Sp
open Go Go.Vc
variable {E:Env} {L:List Asn} {w:World}
def Ints (E:Env) (L:List Asn) (s:Sl) (gs:List Int):Prop:=s.n=gs.length/\∀ w,Sep E L w ->∀ (i:Nat) x,gs[i]? =some x ->∃ a,s.p=some a/\w.cell? (a.add i)=some (.int .i64 x)
theorem Ints.of {L':List Asn} {s:Sl} {gs:List Int} (h:Ints E L s gs) (hw:∀ w,Sep E L' w ->Sep E L w):Ints E L' s gs:=⟨h.1,fun w hs=>h.2 w (hw w hs)⟩
theorem Ints.cons {A:Asn} {s:Sl} {gs:List Int} (h:Ints E L s gs):Ints E (A::L) s gs:=h.of (fun _ hs=>hs.tail)
theorem Ints.el {s:Sl} {gs:List Int} {i x:Int} {F:Int ->Prop} (hI:Ints E L s gs) (h:Sep E L w) (k:Nat) (hi:i=k) (hx:gs[k]? =some x) (f:F x):elAt s.p s.n i 1 fun a=>∃ v:Int,w.cell? a=some (.int .i64 v)/\F v:=by
 have hlt:=(List.getElem?_eq_some_iff.1 hx).1
 obtain ⟨a,hp,ha⟩:=hI.2 w h k x hx
 have:=hI.1
 refine ⟨a,hp,⟨by omega,by omega⟩,x,?_,f⟩
 have e:i.toNat*1=k:=by omega
 rw [e];exact ha
theorem Ints.row {s:Sl} {gs:List Int} (hn:s.n=gs.length):Ints E (rowA s 1 (intL gs)::L) s gs:=by
 refine ⟨hn,fun w h i x hx=> ?_⟩
 have hlt:=(List.getElem?_eq_some_iff.1 hx).1
 obtain ⟨b,spare,hp,h1,_,_,h2⟩:=rowA.get_ h (by omega)
 refine ⟨_,hp,?_⟩
 rw [aad,Nat.zero_add,rowA.cell h2 (by rw [h1];omega)]
 simp [intL,hx]
theorem Ints.at_ {s:Sl} {gs:List Int} {q:Nat} (hq:L[q]? =some (rowA s 1 (intL gs))) (hn:s.n=gs.length):Ints E L s gs:=
 (Ints.row (L:=L.eraseIdx q) hn).of (fun _ h=>h.fr q hq)
theorem Ints.blk_ {b c:Nat} {gs:List Int} {q:Nat} (hq:L[q]? =some (blk b (intL gs))):Ints E L ⟨some ⟨b,0,none⟩,gs.length,c⟩ gs:=by
 refine ⟨rfl,fun w h i x hx=>⟨_,rfl,?_⟩⟩
 rw [aad,Nat.zero_add,h.cellAt q hq,api,hx];rfl
theorem aah {k:Nat} (h:k<4611686018427387904):IntKind.i64.wrap ((k:Int)+1)=((k+1:Nat):Int):=by rw [w64 (by omega) (by omega)];omega
theorem aaj {α:Type} {l:List α} {k:Nat} {c:α} (h:l[k]? =some c):l.take (k+1)=l.take k++ [c]:=by rw [List.take_add_one,h];rfl
theorem ags {α:Type} {f:α ->List Value} {m n:Nat} {l:List α} {i:Int} {F:Addr ->Prop} {b q:Nat} (hf:∀ a,(f a).length=m) (h:Sep E L w) (hq:L[q]? =some (blk b (recs f l))) (hn:l.length=n) (h0:0<=i) (h1:i<n)
  (k:∀ a,l[i.toNat]? =some a ->(∀ j v,(f a)[j]? =some v ->w.cell? ⟨b,i.toNat*m+j,none⟩=some v) ->F ⟨b,i.toNat*m,none⟩):elAt (some ((⟨b,0,none⟩:Addr).add 0)) n i m F:=by
 have hlt:i.toNat<l.length:=by omega
 refine ⟨_,rfl,⟨h0,h1⟩,?_⟩
 rw [aad,aad,Nat.zero_add]
 refine k _ (List.getElem?_eq_getElem hlt) (fun j v hj=> ?_)
 have hjm:j<m:=by have:=(List.getElem?_eq_some_iff.1 hj).1;rwa [hf] at this
 rw [h.cellAt q hq,aov hf (List.getElem?_eq_getElem hlt) j hjm];exact hj
end Go.Sp
end
section
namespace Go.Sp
open Go Go.Vc
variable {E:Env} {L:List Asn} {w:World} {P:Program}
def aAF (P:Program) (E:Env) (f:FuncId) (ca:Array Value) (A A' S:Asn) (xs:List Value):Prop:=
 ∀ (l:Nat) (J X:Nat ->Asn),(∀ L k x W,xs[k]? =some x ->Sep E (J k::S::L) W ->YieldAt Fence.wide 0 P l #[x] W (fun e W'=>
   (e= .returned (.bool true)/\Sep E (J (k+1)::S::L) W')\/(e= .returned (.bool false)/\Sep E (X k::S::L) W'))) ->
  ∀ L W,Sep E (J 0::S::A::L) W ->Calls P f (#[.func (.yield l) #[] #[]]++ca) W (fun e W'=>(∃ v,e= .returned v)/\(Sep E (J xs.length::S::A'::L) W'\/∃ k,k<xs.length/\Sep E (X k::S::A'::L) W'))
theorem af6.iS {τ:TypeId ->K1} {ρ:TypeId ->Kd} {pan:FuncId ->Bool} {An:Ann} {yl:Nat ->Bool} {N p:Nat} {f:FuncId} {ca:Array Value} {A A' S:Asn} {xs:List Value} {asg body:Code} {T:Tr} {done ret:Nat ->World ->Prop}
  (hm:P.follows .mixedOrders=true) (hN:N<=8000) (hp:p<N) (hok:abA P N An asg=true/\abA P N An body=true) (hf:aju P f=true) (hs:aAF P E f ca A A' S xs) (Jb Xb:Nat ->Asn)
  (hround:∀ (l:Nat) (r:Loop) L k x W R,r.state= .ready ->r.pending=none ->xs[k]? =some x ->Sep E (objB l (.loop r)::Jb k::S::L) W ->(∀ W',Sep E (objB l (.loop r)::Jb (k+1)::S::L) W' ->R (.returned (.bool true)) W') ->
   (∀ W',Sep E (objB l (.loop {r with state:= .done,pending:=some .ret})::Xb k::S::L) W' ->R (.returned (.bool false)) W') ->af0 P τ ρ pan An yl N l asg body (ah7 [(p,x)] T) W R)
  (h:Sep E (Jb 0::S::A::L) w) (hdone:∀ b W,Sep E (objB b (.deferred (some []))::Jb xs.length::S::A'::L) W ->done b W)
  (hret:∀ b k W,k<xs.length ->Sep E (objB b (.deferred (some []))::Xb k::S::A'::L) W ->ret b W):af6 P N (.func (.func f) #[] ca) #[p] asg body T w done ret:=by
 refine ⟨f,ca,rfl,hf,fun fn tm hsz htm=> ?_⟩
 have h1:=h.allocO (.deferred (some []))
 have h2:=h1.allocO (.loop (am9 fn tm #[p] asg body w.heap.size))
 rw [size_alloc] at h2
 generalize hr:am9 fn tm #[p] asg body w.heap.size=r at h2 ⊢
 have hr1:r.state= .ready:=by rw [<- hr];rfl
 have hr2:r.pending=none:=by rw [<- hr];rfl
 have hr3:r.params= #[p]:=by rw [<- hr];rfl
 have hr4:r.tmps=tm:=by rw [<- hr];rfl
 have hr5:r.assign=asg:=by rw [<- hr];rfl
 have hr6:r.body=body:=by rw [<- hr];rfl
 generalize w.heap.size=b at h2 ⊢
 have h3:Sep E (star (objB (b+1) (.loop r)) (star (objB b (.deferred (some []))) (Jb 0))::S::A::L) ((w.alloc (.deferred (some []))).alloc (.loop r)):=
  Sep.star.2 ((Sep.star.2 ((h2.ro 3 [1,2,0] rfl))).swap)
 refine Calls.mono (hs (b+1) (fun k=>star (objB (b+1) (.loop r)) (star (objB b (.deferred (some []))) (Jb k))) (fun k=>star (objB (b+1) (.loop {r with state:= .done,pending:=some .ret})) (star (objB b (.deferred (some []))) (Xb k)))
  (fun L' k x W hx hW=> ?_) L _ h3) (fun e W' he=> ?_)
 ·have hW1:=Sep.star.1 ((Sep.star.1 hW).swap)
  have hW2:Sep E (objB (b+1) (.loop r)::Jb k::S::objB b (.deferred (some []))::L') W:=hW1.ro 4 [2,1,3,0] rfl
  refine aCw (τ:=τ) (ρ:=ρ) (pan:=pan) (A:=An) (yl:=yl) (N:=N) (T:=T) hm hN hW2.objBlock (by rw [hr3];rfl) (by rw [hr4];exact hsz) (by rw [hr4];exact htm) (fun t ht=> ?_) (by rw [hr5];exact hok.1) (by rw [hr6];exact hok.2) ?_
  ·rw [hr3] at ht
   have:t=p:=by simpa using ht
   rw [this];exact hp
  ·have hz:(r.params.zip #[x]).toList= [(p,x)]:=by rw [hr3,Array.toList_zip];rfl
   have key:∀ R,af0 P τ ρ pan An yl N (b+1) asg body (ah7 [(p,x)] T) W R ->af0 P τ ρ pan An yl N (b+1) r.assign r.body (ah7 (r.params.zip #[x]).toList T) W R:=by
    intro R hR;rw [hz,hr5,hr6];exact hR
   refine key _ (hround (b+1) r _ k x W _ hr1 hr2 hx hW2 (fun W' h'=> .inl ⟨rfl,?_⟩) (fun W' h'=> .inr ⟨rfl,?_⟩))
   ·exact Sep.star.2 ((Sep.star.2 (h'.ro 4 [3,1,0,2] rfl)).swap)
   ·exact Sep.star.2 ((Sep.star.2 (h'.ro 4 [3,1,0,2] rfl)).swap)
 ·obtain ⟨⟨v,rfl⟩,he⟩:=he
  rcases he with he | ⟨k,hk,he⟩
  ·have h5:=Sep.star.1 he
   refine ⟨r,h5.objBlock,by rw [hr1];simp,?_⟩
   have h6:=(h5.putObj (o':= .loop {r with state:= .exhausted})).tail
   generalize W'.putObj (b+1) (.loop {r with state:= .exhausted})=wX at h6 ⊢
   rw [hr2]
   exact hdone _ _ (Sep.star.1 h6)
  ·have h5:=Sep.star.1 he
   exact ⟨_,h5.objBlock,by simp,hret _ k _ hk (Sep.star.1 (h5.putObj).tail)⟩
end Go.Sp
end
section
set_option maxRecDepth 100000
namespace Go.Kc
open Go
def Nod.vs (x:Nod):List Value:= [.int .i64 x.parent,.int .i64 x.use,.int .i64 x.own]
theorem Nod.vs3 (x:Nod):x.vs.length=3:=rfl
end Go.Kc
namespace Go.Mp
open Go Go.Vc Go.Sp Go.Proofs Go.Kc
variable {E:Env} {L:List Asn} {w W:World}
abbrev aay (s:Sl) (l:List Nod):Asn:=rowA s 3 (recs Nod.vs l)
theorem arC {s:Sl} {l:List Nod} {i:Int} {f:Addr ->Prop} (q:Nat) (h:Sep E L w) (hq:L[q]? =some (aay s l)) (hn:s.n=l.length) {k:Nat} (hi:i=k) {x:Nod} (hx:l[k]? =some x)
  (kk:∀ a,w.cell? (a.add 0)=some (.int .i64 x.parent) ->w.cell? (a.add 1)=some (.int .i64 x.use) ->w.cell? (a.add 2)=some (.int .i64 x.own) ->f a):elAt s.p s.n i 3 f:=
 elC Nod.vs3 q h hq hn hi hx (fun b _ hc=>kk _ (by rw [aad];exact hc 0 _ rfl) (by rw [aad];exact hc 1 _ rfl) (by rw [aad];exact hc 2 _ rfl))
theorem am3 (g:Int) (w:World):Calls P adr #[.int .i64 g] w (Ret fun v w'=>v= .bool (isA g)/\w'=w):=by
 apply atW
 unfold alO isA top
 exact bLe (fun h=>⟨by rw [decide_eq_true h];rfl,rfl⟩) (fun h=>⟨by rw [decide_eq_false (by omega)];rfl,rfl⟩)
theorem aG7 {x:Nod} (h:Sep E L w):Calls P ae7 #[.agg #[.int .i64 x.parent,.int .i64 x.use,.int .i64 x.own]] w (Ret fun v w'=>v= .int .i64 x.ownN/\Sep E L w'):=by
 apply aqE
 refine Al.i h (fun p w1 h1=>⟨_,by rw [aad];exact h1.cell 2,_,by rw [aad];exact h1.cell 1,?_,h1.tail⟩)
 unfold Nod.ownN min1
 congr 1
 split<;>omega
theorem aDl {s:Sl} {l:List Nod} {q:Nat} (hq:L[q]? =some (aay s l)) (hn:s.n=l.length) (hb:l.length<1000000) (h:Sep E L w):Calls P agG #[.slice s.p s.n s.c] w (Ret fun v w'=>v= .bool (ab8 l)/\Sep E L w'):=by
 apply avz
 unfold amJ
 refine ⟨fun x w'=>∃ k:Nat,x=k/\k<=l.length/\aaL 0 (l.take k)=true/\Sep E L w',fun x _=>(l.length - x).toNat,⟨0,rfl,Nat.zero_le _,by simp [aaL],h⟩,?_⟩
 rintro _ x w1 ⟨k,rfl,hk,hv,h1⟩
 refine bLt (fun hlt=> ?_) (fun hge=> ?_)
 ·obtain ⟨y,hy⟩:∃ y,l[k]? =some y:=⟨_,List.getElem?_eq_getElem (by omega)⟩
  refine arC q h1 hq hn rfl hy (fun a c0 c1 c2=>⟨_,c0,_,c1,_,c2,Al.i h1 (fun p w2 h2=>zst _ h2 rfl (fun w3 h3=> ?_))⟩)
  have hsn:aaL 0 (l.take (k+1))=aaL k [y]:=by
   rw [aaj hy,aoL,hv,Bool.true_and,Nat.zero_add,List.length_take,Nat.min_eq_left hk]
  have bad:aaL k [y]=false ->ab8 l=false:=by
   intro hh
   unfold ab8
   cases hvl:aaL 0 l with
   | false=>rfl
   | true=>
    have:=aoM (k:=k+1) hvl
    rw [hsn,hh] at this;cases this
  have cell:∀ (j:Nat) {w':World},Sep E (blk p [.int .i64 y.parent,.int .i64 y.use,.int .i64 y.own]::L) w' ->w'.cell? ((⟨p,0,none⟩:Addr).add j)=([.int .i64 y.parent,.int .i64 y.use,.int .i64 y.own]:List Value)[j]? :=by
   intro j w' hs;rw [aad,hs.cell,Nat.zero_add]
  have goon:aaL k [y]=true ->(∃ k':Nat,IntKind.i64.wrap ((k:Int)+1)=k'/\k'<=l.length/\aaL 0 (l.take k')=true/\Sep E L w3)/\(l.length - IntKind.i64.wrap ((k:Int)+1)).toNat<(l.length - (k:Int)).toNat:=by
   intro hh
   exact ⟨⟨k+1,aah (by omega),by omega,by rw [hsn,hh],h3.tail⟩,by rw [aah (by omega)];omega⟩
  have two:∀ (B1:World ->Prop),(∀ w',w'=w3 ->B1 w') ->((decide (k=0)&&decide (y.parent= -1))||(decide (0<=y.parent)&&decide (y.parent<(k:Int))))=true ->
    (aaL k [y]=(isA y.use&&isA y.own)):=by
   intro _ _ hh
   rw [ag2,hh,Bool.true_and]
  refine ⟨fun root w'=>root=(decide (k=0)&&decide (y.parent= -1))/\w'=w3,bEq (fun e=>⟨_,cell 0 h3,?_,rfl⟩) (fun e=>⟨?_,rfl⟩),?_⟩
  ·rw [decide_eq_true (show k=0 by omega),Bool.true_and]
   by_cases e2:y.parent= -1
   ·rw [e2];rfl
   ·rw [decide_eq_false e2];simpa using e2
  ·rw [decide_eq_false (show ¬ k=0 by omega),Bool.false_and]
  ·rintro _ root w4 ⟨rfl,rfl⟩
   have tail:((decide (k=0)&&decide (y.parent= -1))||(decide (0<=y.parent)&&decide (y.parent<(k:Int))))=true ->∀ {K:World ->Prop},(aaL k [y]=true ->K w4) ->(aaL k [y]=false ->Value.bool false= .bool (ab8 l)/\Sep E L w4 ->True) ->True:=fun _ _ _ _=>trivial
   have _:=tail
   have _:=two
   cases hroot:(decide (k=0)&&decide (y.parent= -1)) with
   | false=>
    refine bT rfl ⟨_,cell 0 h3,bLt (fun hh=>⟨?_,h3.tail⟩) (fun hh=>⟨_,cell 0 h3,bGe (fun hh2=>⟨?_,h3.tail⟩) (fun hh2=>⟨_,cell 1 h3,use (am3 _ w4) ?_⟩)⟩)⟩
    ·rw [bad]
     rw [ag2,hroot,decide_eq_false (show ¬ 0<=y.parent by omega)];rfl
    ·rw [bad]
     rw [ag2,hroot,decide_eq_false (show ¬ y.parent<(k:Int) by omega),Bool.and_false];rfl
    ·rintro _ w5 ⟨rfl,rfl⟩
     have hvv:aaL k [y]=(isA y.use&&isA y.own):=by
      rw [ag2,hroot,decide_eq_true (show 0<=y.parent by omega),decide_eq_true (show y.parent<(k:Int) by omega)];rfl
     refine ⟨_,rfl,?_⟩
     cases hu:isA y.use with
     | false=>exact bT rfl ⟨by rw [bad];rw [hvv,hu];rfl,h3.tail⟩
     | true=>
      refine bF rfl ⟨_,cell 2 h3,use (am3 _ w5) ?_⟩
      rintro _ w6 ⟨rfl,rfl⟩
      refine ⟨_,rfl,?_⟩
      cases ho:isA y.own with
      | false=>exact bT rfl ⟨by rw [bad];rw [hvv,hu,ho];rfl,h3.tail⟩
      | true=>exact bF rfl (goon (by rw [hvv,hu,ho];rfl))
   | true=>
    refine bF rfl ⟨_,cell 1 h3,use (am3 _ w4) ?_⟩
    rintro _ w5 ⟨rfl,rfl⟩
    have hvv:aaL k [y]=(isA y.use&&isA y.own):=by
     rw [ag2,hroot];rfl
    refine ⟨_,rfl,?_⟩
    cases hu:isA y.use with
    | false=>exact bT rfl ⟨by rw [bad];rw [hvv,hu];rfl,h3.tail⟩
    | true=>
     refine bF rfl ⟨_,cell 2 h3,use (am3 _ w5) ?_⟩
     rintro _ w6 ⟨rfl,rfl⟩
     refine ⟨_,rfl,?_⟩
     cases ho:isA y.own with
     | false=>exact bT rfl ⟨by rw [bad];rw [hvv,hu,ho];rfl,h3.tail⟩
     | true=>exact bF rfl (goon (by rw [hvv,hu,ho];rfl))
 ·have:k=l.length:=by omega
  subst this
  rw [List.take_length] at hv
  refine ⟨?_,h1⟩
  unfold ab8
  rw [hv,Bool.true_and,hn]
  congr 1
  exact decide_eq_decide.2 (by omega)
theorem aHd:aju P aeq=true:=by kernel_rfl
theorem aG8 {s:Sl} {g t:Int} (h:Sep E L w):Calls P aiz #[.slice s.p s.n s.c,.int .i64 g,.int .i64 t] w (Ret fun v w'=>∃ p1 p3 p5,v= .func (.func aeq) #[] #[.pointer (some ⟨p3,0,none⟩),.pointer (some ⟨p5,0,none⟩),.pointer (some ⟨p1,0,none⟩)]/\
  Sep E (blk p3 [.int .i64 g]::blk p5 [.int .i64 t]::blk p1 [.slice s.p s.n s.c]::L) w'):=by
 apply aAr
 unfold apP
 exact Al.i h (fun p1 w1 h1=>Al.i h1 (fun p3 w2 h2=>Al.i h2 (fun p5 w3 h3=>⟨p1,p3,p5,rfl,h3.ro 3 [1,0,2] rfl⟩)))
def agP (p1 p3 p5:Nat) (s:Sl) (t g:Int):Asn:=star (blk p3 [.int .i64 g]) (star (blk p5 [.int .i64 t]) (blk p1 [.slice s.p s.n s.c]))
theorem aFd {p1 p3 p5:Nat} {s:Sl} {l:List Nod} {g t:Int} (hn:s.n=l.length) (hv:ab8 l=true) (hg:g<l.length) (ht:0<=t):
  aAF P E aeq #[.pointer (some ⟨p3,0,none⟩),.pointer (some ⟨p5,0,none⟩),.pointer (some ⟨p1,0,none⟩)] (agP p1 p3 p5 s t g) (exA fun x:Int=>agP p1 p3 p5 s t x) (aay s l) ((ups l t g).map (Value.int .i64)):=by
 intro lp J X hY L W h
 have pack:∀ {A:Asn} {x:Int} {W':World},Sep E (A::aay s l::blk p3 [.int .i64 x]::blk p5 [.int .i64 t]::blk p1 [.slice s.p s.n s.c]::L) W' ->Sep E (A::aay s l::(exA fun x:Int=>agP p1 p3 p5 s t x)::L) W':=by
  intro A x W' hh
  have h1:Sep E (blk p5 [.int .i64 t]::blk p1 [.slice s.p s.n s.c]::blk p3 [.int .i64 x]::A::aay s l::L) W':=hh.ro 5 [3,4,2,0,1] rfl
  have h2:=Sep.star.2 ((Sep.star.2 h1).swap)
  exact (Sep.ex.2 ⟨x,h2⟩:Sep E ((exA fun x:Int=>agP p1 p3 p5 s t x)::A::aay s l::L) W').ro 3 [1,2,0] rfl
 refine Calls.mono (R:=Ret fun v W'=>v= .tuple #[]/\(Sep E (J ((ups l t g).map (Value.int .i64)).length::aay s l::(exA fun x:Int=>agP p1 p3 p5 s t x)::L) W'\/
  ∃ k,k<((ups l t g).map (Value.int .i64)).length/\Sep E (X k::aay s l::(exA fun x:Int=>agP p1 p3 p5 s t x)::L) W')) ?_ (fun e W' he=> ?_)
 rotate_left
 ·obtain ⟨v,rfl,rfl,he⟩:=he
  exact ⟨⟨_,rfl⟩,he⟩
 have h1:Sep E (J 0::aay s l::blk p3 [.int .i64 g]::blk p5 [.int .i64 t]::blk p1 [.slice s.p s.n s.c]::L) W:=by
  have h2:Sep E (agP p1 p3 p5 s t g::J 0::aay s l::L) W:=h.ro 3 [2,0,1] rfl
  have h3:=Sep.star.1 ((Sep.star.1 h2).swap)
  exact h3.ro 5 [3,4,2,0,1] rfl
 show Calls P aeq #[.func (.yield lp) #[] #[],.pointer (some ⟨p3,0,none⟩),.pointer (some ⟨p5,0,none⟩),.pointer (some ⟨p1,0,none⟩)] W _
 apply axc
 unfold ajH
 rw [List.length_map]
 refine ⟨fun w'=>∃ (k:Nat) (x:Int),x<l.length/\k<=(ups l t g).length/\(ups l t g).drop k=upN l t (l.length+1) x/\Sep E (J k::aay s l::blk p3 [.int .i64 x]::blk p5 [.int .i64 t]::blk p1 [.slice s.p s.n s.c]::L) w',
  fun w'=>match w'.cell? ⟨p3,0,none⟩ with | some (.int _ x)=>(x+1).toNat | _=>0,⟨0,g,hg,Nat.zero_le _,rfl,h1⟩,?_⟩
 rintro _ w2 ⟨k,x,hx,hkle,hd,h2⟩
 refine ⟨x,h2.cellAt 2 rfl 0,t,h2.cellAt 3 rfl 0,bNe (fun hne=> ?_) (fun he=> ?_)⟩
 ·refine ⟨x,h2.cellAt 2 rfl 0,lp,rfl,?_⟩
  rw [apH hne] at hd
  have hk:(ups l t g)[k]? =some x:=by
   have:((ups l t g).drop k)[0]? =some x:=by rw [hd];rfl
   rwa [List.getElem?_drop,Nat.add_zero] at this
  have hk':((ups l t g).map (Value.int .i64))[k]? =some (.int .i64 x):=by rw [List.getElem?_map,hk];rfl
  have hkl:=(List.getElem?_eq_some_iff.1 hk).1
  have hd':(ups l t g).drop (k+1)=if x<0 then [] else upN l t l.length (nAt l x).parent:=by rw [<- List.drop_drop,hd];rfl
  obtain ⟨fn,tmps,asg,body,hrun,hround⟩:=hY _ k _ _ hk' h2
  refine ⟨fn,tmps,asg,body,hrun,hround.mono fun e w3 he=> ?_⟩
  rcases he with ⟨rfl,h3⟩ | ⟨rfl,h3⟩
  ·refine ⟨true,rfl,bF rfl ⟨x,h3.cellAt 2 rfl 0,bLt (fun h0=>⟨rfl,.inl ?_⟩) (fun h0=> ?_)⟩⟩
   ·rw [if_pos h0] at hd'
    have:(ups l t g).length=k+1:=by
     have:=congrArg List.length hd'
     rw [List.length_drop] at this
     simp at this;omega
    rw [this]
    exact pack h3
   ·rw [if_neg (by omega)] at hd'
    obtain ⟨m,rfl⟩:∃ m:Nat,x=m:=⟨x.toNat,by omega⟩
    obtain ⟨y,hy⟩:∃ y,l[m]? =some y:=⟨_,List.getElem?_eq_getElem (by omega)⟩
    rw [aok hy] at hd'
    have hvp:=(agQ hv hy).1
    refine ⟨s,h3.cellAt 4 rfl 0,_,h3.cellAt 2 rfl 0,arC 1 h3 rfl hn rfl hy (fun a c0 _ _=>⟨_,c0,?_⟩)⟩
    refine St.i (h3.ro 5 [2,0,1,3,4] rfl) (by show 0<1;decide) (fun w4 h4=> ?_)
    have h4:Sep E (blk p3 [.int .i64 y.parent]::J (k+1)::aay s l::blk p5 [.int .i64 t]::blk p1 [.slice s.p s.n s.c]::L) w4:=h4
    have c1:w4.cell? ⟨p3,0,none⟩=some (.int .i64 y.parent):=h4.cell 0
    have c2:w2.cell? ⟨p3,0,none⟩=some (.int .i64 (m:Int)):=h2.cellAt 2 rfl 0
    dsimp only
    rw [c1,c2]
    refine ⟨rfl,⟨k+1,y.parent,by omega,hkl,?_,h4.ro 5 [1,2,0,3,4] rfl⟩,?_⟩
    ·rw [hd']
     exact aCe hv _ _ _ (by omega) (by omega) (by omega)
    ·show (y.parent+1).toNat<((m:Int)+1).toNat
     omega
  ·exact ⟨false,rfl,bT rfl ⟨rfl,.inr ⟨k,hkl,pack h3⟩⟩⟩
 ·refine ⟨rfl,.inl ?_⟩
  rw [upN,if_pos he] at hd
  have:(ups l t g).length=k:=by
   have:=congrArg List.length hd
   rw [List.length_drop] at this
   simp at this;omega
  rw [this];exact pack h2
end Go.Mp
end
section
set_option maxRecDepth 100000
namespace Go.Mp
open Go Go.Vc Go.Sp Go.Proofs Go.Kc
variable {E:Env} {L:List Asn} {w W:World}
theorem axm {r:Loop} (h1:r.state= .ready) (h2:r.pending=none):({ {r with state:= .busy} with state:=if (none:Option Code).isNone then .ready else .done,pending:=none} :Loop)=r:=by
 cases r;simp only at h1 h2;subst h1 h2;rfl
theorem aDm {s:Sl} {l:List Nod} {g t:Int} {q:Nat} (hq:L[q]? =some (aay s l)) (hn:s.n=l.length) (hv:ab8 l=true) (hg:g<l.length) (ht:0<=t) (h:Sep E L w):
  Calls P agH #[.slice s.p s.n s.c,.int .i64 g,.int .i64 t] w (Ret fun v w'=>v= .bool (agT l g t)/\Sep E (aay s l::L.eraseIdx q) w'):=by
 apply avA
 unfold aiJ
 refine Al.i (h.fr q hq) (fun p w1 h1=>use (aG8 h1) ?_)
 rintro _ w2 ⟨p1,p3,p5,rfl,h2⟩
 refine ⟨_,rfl,?_⟩
 have h3:Sep E (pur (((ups l t g).take 0).all (fun x=>decide (0<=x))=true) (blk p [.bool false])::aay s l::agP p1 p3 p5 s t g::L.eraseIdx q) w2:=by
  have h4:Sep E (blk p5 [.int .i64 t]::blk p1 [.slice s.p s.n s.c]::blk p3 [.int .i64 g]::blk p [.bool false]::aay s l::L.eraseIdx q) w2:=h2.ro 5 [1,2,0,3,4] rfl
  have h5:=Sep.star.2 ((Sep.star.2 h4).swap)
  exact Sep.pur.2 ⟨rfl,(show Sep E (agP p1 p3 p5 s t g::blk p [.bool false]::aay s l::L.eraseIdx q) w2 from h5).ro 3 [1,2,0] rfl⟩
 refine af6.iS (τ:=tau) (ρ:=rho) (pan:=pan) (An:=ado) (yl:=aiM) mixed (by decide) (by decide) at5 aHd (aFd hn hv hg ht)
  (fun k=>pur (((ups l t g).take k).all (fun x=>decide (0<=x))=true) (blk p [.bool false])) (fun _=>pur (agT l g t=false) (blk p [.bool false])) ?_ h3 ?_ ?_
 ·intro lp r L' k x W R hr1 hr2 hx hW hgo hstop
  obtain ⟨y,hy,rfl⟩:∃ y,(ups l t g)[k]? =some y/\x= .int .i64 y:=by
   rw [List.getElem?_map] at hx
   cases hk:(ups l t g)[k]? with
   | none=>rw [hk] at hx;cases hx
   | some y=>rw [hk] at hx;exact ⟨y,rfl,(Option.some.inj hx).symm⟩
  refine (at6 s g t ⟨p,0,none⟩ _ y lp W R).mpr ?_
  unfold amF
  refine ahn.i hW hr1 (fun w4 h5=> ?_)
  obtain ⟨hall,h6⟩:=Sep.pur.1 h5.swap
  refine bLt (fun hneg=> ?_) (fun hpos=> ?_)
  ·refine St.i h6 (by show 0<1;decide) (fun w5 h7=> ?_)
   refine EndR.i h7.swap (fun w6 h8=>hstop w6 ?_)
   refine Sep.swap (Sep.pur.2 ⟨?_,h8.swap⟩)
   unfold agT
   cases hh:(ups l t g).all fun x=>decide (0<=x) with
   | false=>rfl
   | true=>
    have:=List.all_eq_true.1 hh y (List.mem_of_getElem? hy)
    simp at this;omega
  ·refine EndR.i h6.swap (fun w6 h8=>hgo w6 ?_)
   rw [axm hr1 hr2] at h8
   refine Sep.swap (Sep.pur.2 ⟨?_,h8.swap⟩)
   rw [aaj hy,List.all_append,hall]
   simp;omega
 ·intro b W hW
  obtain ⟨hall,h5⟩:=Sep.pur.1 hW.swap
  rw [List.length_map,List.take_length] at hall
  refine St.i h5 (by show 0<1;decide) (fun w4 h6=> ?_)
  have h6:Sep E (blk p [.bool true]::objB b (.deferred (some []))::aay s l::(exA fun x:Int=>agP p1 p3 p5 s t x)::L.eraseIdx q) w4:=h6
  have h7:=h6.swap.putObj (o':= .deferred none)
  refine ⟨h6.swap.objBlock,_,h7.cellAt 1 rfl 0,?_,h7.ro 4 [2] rfl⟩
  unfold agT;rw [hall]
 ·intro b k W _ hW
  obtain ⟨hb,h5⟩:=Sep.pur.1 hW.swap
  have h7:=h5.swap.putObj (o':= .deferred none)
  refine ⟨h5.swap.objBlock,_,h7.cellAt 1 rfl 0,?_,h7.ro 4 [2] rfl⟩
  rw [hb]
theorem aGn {s e:Sl} {l:List Nod} {t:Int} {q:Nat} (hq:L[q]? =some (aay s l)) (hn:s.n=l.length) (hb:l.length<1000000) (h:Sep E L w):
  Calls P aiF #[.slice s.p s.n s.c,.slice e.p e.n e.c,.int .i64 t] w (Ret fun v w'=>v= .bool (ab8 l&&decide (e.n=l.length)&&decide (0<=t)&&decide (t<l.length))/\Sep E L w'):=by
 apply avB
 unfold amK
 refine use (aDl hq hn hb h) ?_
 rintro _ w1 ⟨rfl,h1⟩
 refine ⟨_,rfl,?_⟩
 cases ab8 l with
 | false=>exact bF rfl ⟨rfl,h1⟩
 | true=>
  refine bT rfl (bEq (fun he=> ?_) (fun hne=> ?_))
  ·have he:e.n=l.length:=by omega
   refine bLe (fun h0=>⟨?_,h1⟩) (fun h0=>⟨?_,h1⟩)
   ·rw [decide_eq_true he,decide_eq_true h0,hn];rfl
   ·rw [decide_eq_false (show ¬ 0<=t by omega),Bool.and_false,Bool.false_and]
  ·rw [decide_eq_false (show ¬ e.n=l.length by omega)];exact ⟨rfl,h1⟩
theorem aH1 {s e:Sl} {l:List Nod} {eff:List Int} {g t:Int} (hn:s.n=l.length) (he:e.n=eff.length) (hb:l.length<1000000) (h:Sep E (aay s l::rowA e 1 (intL eff)::L) w):
  Calls P ajj #[.slice s.p s.n s.c,.slice e.p e.n e.c,.int .i64 t,.int .i64 g] w (Ret fun v w'=>v= .bool (ajn l eff t g)/\Sep E (aay s l::rowA e 1 (intL eff)::L) w'):=by
 apply axa
 unfold ajG
 refine Al.i h (fun p1 w1 h1=>Al.i h1 (fun p3 w2 h2=>Al.i h2 (fun p5 w3 h3=> ?_)))
 have h3:Sep E (blk p5 [.bool false]::blk p3 [.slice e.p e.n e.c]::blk p1 [.slice s.p s.n s.c]::aay s l::rowA e 1 (intL eff)::L) w3:=h3
 refine ⟨s,h3.cellAt 2 rfl 0,e,h3.cellAt 1 rfl 0,use (aGn (q:=3) rfl hn hb h3) ?_⟩
 rintro _ w4 ⟨rfl,h4⟩
 refine ⟨_,rfl,?_⟩
 have fin:∀ {w5:World} {M:List Asn},Sep E (blk p5 [.bool false]::M) w5 ->(∀ w6,Sep E (blk p5 [.bool false]::M) w6 ->Value.bool false= .bool (ajn l eff t g)/\Sep E (aay s l::rowA e 1 (intL eff)::L) w6) ->
   St ⟨p5,0,none⟩ (.bool false) (fun w6=>∃ r:Bool,w6.cell? ⟨p5,0,none⟩=some (.bool r)/\(fun v w'=>v=Value.bool (ajn l eff t g)/\Sep E (aay s l::rowA e 1 (intL eff)::L) w') (.bool r) w6) w5:=by
  intro w5 M h5 hk
  exact St.i h5 (by show 0<1;decide) (fun w6 h6=>⟨false,h6.cell 0,hk w6 h6⟩)
 have hfalse:∀ {w6:World},(ab8 l=false\/eff.length≠l.length\/t<0\/(l.length:Int)<=t\/g<0\/(l.length:Int)<=g\/agT l g t=false) ->Sep E (blk p5 [.bool false]::blk p3 [.slice e.p e.n e.c]::blk p1 [.slice s.p s.n s.c]::aay s l::rowA e 1 (intL eff)::L) w6 ->
   Value.bool false= .bool (ajn l eff t g)/\Sep E (aay s l::rowA e 1 (intL eff)::L) w6:=by
  intro w6 hc h6
  unfold ajn
  rw [if_pos hc]
  exact ⟨rfl,h6.ro 5 [3,4] rfl⟩
 cases hr:(ab8 l&&decide (e.n=l.length)&&decide (0<=t)&&decide (t<l.length)) with
 | false=>
  refine bT rfl (fin h4 (fun w6 h6=>hfalse ?_ h6))
  by_cases a1:ab8 l=true
  ·by_cases a2:e.n=l.length
   ·by_cases a3:0<=t
    ·rw [a1,decide_eq_true a2,decide_eq_true a3] at hr
     have:¬ t<l.length:=by simpa using hr
     exact .inr (.inr (.inr (.inl (by omega))))
    ·exact .inr (.inr (.inl (by omega)))
   ·exact .inr (.inl (by omega))
  ·exact .inl (by simpa using a1)
 | true=>
  simp only [Bool.and_eq_true,decide_eq_true_eq] at hr
  obtain ⟨⟨⟨a1,a2⟩,a3⟩,a4⟩:=hr
  refine bF rfl (bLt (fun h0=>fin h4 (fun w6 h6=>hfalse (.inr (.inr (.inr (.inr (.inl h0))))) h6)) (fun h0=> ?_))
  refine ⟨s,h4.cellAt 2 rfl 0,bGe (fun hge=>fin h4 (fun w6 h6=>hfalse (.inr (.inr (.inr (.inr (.inr (.inl (by omega))))))) h6)) (fun hlt=> ?_)⟩
  refine ⟨s,h4.cellAt 2 rfl 0,use (aDm (q:=3) rfl hn a1 (by omega) a3 h4) ?_⟩
  rintro _ w5 ⟨rfl,h5⟩
  have h5:Sep E (aay s l::blk p5 [.bool false]::blk p3 [.slice e.p e.n e.c]::blk p1 [.slice s.p s.n s.c]::rowA e 1 (intL eff)::L) w5:=h5
  refine ⟨_,rfl,?_⟩
  cases hbl:agT l g t with
  | false=>exact bT rfl (fin (h5.ro 5 [1,2,3,0,4] rfl) (fun w6 h6=>hfalse (.inr (.inr (.inr (.inr (.inr (.inr hbl)))))) h6))
  | true=>
   refine bF rfl ⟨s,h5.cellAt 3 rfl 0,use (aG8 h5) ?_⟩
   rintro _ w6 ⟨q1,q3,q5,rfl,h6⟩
   refine ⟨_,rfl,?_⟩
   have hval:ajn l eff t g=(ups l t g).any fun x=>decide ((nAt l x).use<=eff.getD x.toNat 0):=by
    unfold ajn
    rw [if_neg]
    rintro (c | c | c | c | c | c | c)
    ·rw [a1] at c;cases c
    ·omega
    ·omega
    ·omega
    ·omega
    ·omega
    ·rw [hbl] at c;cases c
   let Jb:Nat ->Asn:=fun k=>pur (((ups l t g).take k).any (fun x=>decide ((nAt l x).use<=eff.getD x.toNat 0))=false) (star (blk p5 [.bool false]) (star (blk p3 [.slice e.p e.n e.c]) (star (blk p1 [.slice s.p s.n s.c]) (rowA e 1 (intL eff)))))
   have jget:∀ {k:Nat} {M:List Asn} {w':World},Sep E (Jb k::M) w' ->((ups l t g).take k).any (fun x=>decide ((nAt l x).use<=eff.getD x.toNat 0))=false/\Sep E (blk p5 [.bool false]::blk p3 [.slice e.p e.n e.c]::blk p1 [.slice s.p s.n s.c]::rowA e 1 (intL eff)::M) w':=by
    intro k M w' hh
    obtain ⟨c,hh⟩:=Sep.pur.1 hh
    refine ⟨c,?_⟩
    have g1:=Sep.star.1 hh
    have g2:=Sep.star.1 g1.swap
    have g3:=Sep.star.1 (g2.swap)
    exact (Sep.star.1 ((g2.ro 3 [1,2,0] rfl))).ro 4 [2,3,0,1] rfl
   have jmk:∀ {k:Nat} {M:List Asn} {w':World},((ups l t g).take k).any (fun x=>decide ((nAt l x).use<=eff.getD x.toNat 0))=false ->Sep E (blk p5 [.bool false]::blk p3 [.slice e.p e.n e.c]::blk p1 [.slice s.p s.n s.c]::rowA e 1 (intL eff)::M) w' ->Sep E (Jb k::M) w':=by
    intro k M w' c hh
    refine Sep.pur.2 ⟨c,?_⟩
    have g1:=Sep.star.2 (hh.ro 4 [2,3,0,1] rfl)
    have g2:=Sep.star.2 (g1.ro 3 [2,0,1] rfl)
    exact Sep.star.2 g2.swap
   have h7:Sep E (Jb 0::aay s l::agP q1 q3 q5 s t g::L) w6:=by
    have g1:Sep E (blk q5 [.int .i64 t]::blk q1 [.slice s.p s.n s.c]::blk q3 [.int .i64 g]::aay s l::blk p5 [.bool false]::blk p3 [.slice e.p e.n e.c]::blk p1 [.slice s.p s.n s.c]::rowA e 1 (intL eff)::L) w6:=h6.ro 8 [1,2,0,3,4,5,6,7] rfl
    have g2:Sep E (agP q1 q3 q5 s t g::aay s l::blk p5 [.bool false]::blk p3 [.slice e.p e.n e.c]::blk p1 [.slice s.p s.n s.c]::rowA e 1 (intL eff)::L) w6:=Sep.star.2 ((Sep.star.2 g1).swap)
    exact jmk (by simp) (g2.ro 6 [2,3,4,5,1,0] rfl)
   refine af6.iS (τ:=tau) (ρ:=rho) (pan:=pan) (An:=adK) (yl:=ajM) mixed (by decide) (by decide) avP aHd (aFd hn a1 (by omega) a3)
    Jb (fun _=>pur (ajn l eff t g=true) (star (blk p5 [.bool true]) (rowA e 1 (intL eff)))) ?_ h7 ?_ ?_
   ·intro lp r L' k x W R hr1 hr2 hx hW hgo hstop
    obtain ⟨y,hy,rfl⟩:∃ y,(ups l t g)[k]? =some y/\x= .int .i64 y:=by
     rw [List.getElem?_map] at hx
     cases hk:(ups l t g)[k]? with
     | none=>rw [hk] at hx;cases hx
     | some y=>rw [hk] at hx;exact ⟨y,rfl,(Option.some.inj hx).symm⟩
    have hy0:0<=y:=by
     have:=List.all_eq_true.1 (show (ups l t g).all (fun x=>decide (0<=x))=true from hbl) y (List.mem_of_getElem? hy)
     simpa using this
    have hylt:y<l.length:=aF2 a1 _ _ (by omega) y (List.mem_of_getElem? hy)
    obtain ⟨m,rfl⟩:∃ m:Nat,y=m:=⟨y.toNat,by omega⟩
    obtain ⟨z,hz⟩:∃ z,l[m]? =some z:=⟨_,List.getElem?_eq_getElem (by omega)⟩
    refine (avR s e t g ⟨p1,0,none⟩ ⟨p3,0,none⟩ ⟨p5,0,none⟩ _ _ _ _ _ _ _ _ (m:Int) lp W R).mpr ?_
    unfold ane
    refine ahn.i hW hr1 (fun w4' h8=>Dr.i h8 (fun w5' h9=> ?_))
    obtain ⟨hno,h10⟩:=jget h9.swap
    have h10:Sep E (blk p5 [.bool false]::blk p3 [.slice e.p e.n e.c]::blk p1 [.slice s.p s.n s.c]::rowA e 1 (intL eff)::objB lp (.loop {r with state:= .busy})::aay s l::L') w5':=h10
    refine ⟨s,h10.cellAt 2 rfl 0,arC 5 h10 rfl hn rfl hz (fun a _ c1 _=>⟨_,c1,e,h10.cellAt 1 rfl 0,elI 3 h10 rfl he (by omega) (by omega) (fun a2 hc2=>⟨_,hc2,?_⟩)⟩)⟩
    have hcond:decide ((nAt l (m:Int)).use<=eff.getD ((m:Int)).toNat 0)=decide (z.use<=eff.getD ((m:Int)).toNat 0):=by rw [aok hz]
    refine bLe (fun hle=> ?_) (fun hgt=> ?_)
    ·refine St.i h10 (by show 0<1;decide) (fun w6' h11=> ?_)
     have h11:Sep E (blk p5 [.bool true]::blk p3 [.slice e.p e.n e.c]::blk p1 [.slice s.p s.n s.c]::rowA e 1 (intL eff)::objB lp (.loop {r with state:= .busy})::aay s l::L') w6':=h11
     refine EndR.i (h11.ro 6 [4,0,3,5] rfl) (fun w7' h12=>hstop w7' ?_)
     refine Sep.swap (Sep.pur.2 ⟨?_,?_⟩)
     ·rw [hval]
      exact List.any_eq_true.2 ⟨(m:Int),List.mem_of_getElem? hy,by rw [hcond];exact decide_eq_true hle⟩
     ·have h13:Sep E (blk p5 [.bool true]::rowA e 1 (intL eff)::objB lp (.loop {r with state:= .done,pending:=some .ret})::aay s l::L') w7':=h12.ro 3 [1,2,0] rfl
      exact Sep.star.2 h13
    ·refine EndR.i (h10.ro 6 [4,0,1,2,3,5] rfl) (fun w7' h12=>hgo w7' ?_)
     rw [axm hr1 hr2] at h12
     refine Sep.swap (jmk ?_ (h12.ro 5 [1,2,3,4,0] rfl))
     rw [aaj hy,List.any_append,hno]
     simp only [List.any_cons,List.any_nil,Bool.or_false,Bool.false_or]
     rw [hcond]
     exact decide_eq_false (by omega)
   ·intro b W hW
    obtain ⟨hno,h8⟩:=jget hW.swap
    rw [List.length_map,List.take_length] at hno
    refine St.i h8 (by show 0<1;decide) (fun w4' h9=> ?_)
    have h9:Sep E (blk p5 [.bool false]::blk p3 [.slice e.p e.n e.c]::blk p1 [.slice s.p s.n s.c]::rowA e 1 (intL eff)::objB b (.deferred (some []))::aay s l::(exA fun x:Int=>agP q1 q3 q5 s t x)::L) w4':=h9
    have h10:Sep E (objB b (.deferred (some []))::blk p5 [.bool false]::blk p3 [.slice e.p e.n e.c]::blk p1 [.slice s.p s.n s.c]::rowA e 1 (intL eff)::aay s l::(exA fun x:Int=>agP q1 q3 q5 s t x)::L) w4':=h9.ro 5 [4,0,1,2,3] rfl
    have h11:=h10.putObj (o':= .deferred none)
    exact ⟨h10.objBlock,_,h11.cellAt 1 rfl 0,by rw [hval,hno],h11.ro 7 [5,4] rfl⟩
   ·intro b k W _ hW
    obtain ⟨hyes,h8⟩:=Sep.pur.1 hW.swap
    have h9:=Sep.star.1 h8
    have h10:Sep E (objB b (.deferred (some []))::blk p5 [.bool true]::rowA e 1 (intL eff)::aay s l::(exA fun x:Int=>agP q1 q3 q5 s t x)::L) W:=h9.ro 3 [2,0,1] rfl
    have h11:=h10.putObj (o':= .deferred none)
    exact ⟨h10.objBlock,_,h11.cellAt 1 rfl 0,by rw [hyes],h11.ro 5 [3,2] rfl⟩
theorem aH6 {a p s:Int} (ha:0<=a/\a<2147483648) (hp:0<=p/\p<2147483648) (hs:0<s/\s<9223372036854775808) (h:Sep E L w):Calls P ajk #[.int .i64 a,.int .i64 p,.int .i64 s] w (Ret fun v w'=>v= .int .i64 (a*p / s)/\Sep E L w'):=by
 apply axb
 unfold anj
 obtain ⟨x,rfl⟩:∃ x:Nat,a=x:=⟨a.toNat,by omega⟩
 obtain ⟨y,rfl⟩:∃ y:Nat,p=y:=⟨p.toNat,by omega⟩
 obtain ⟨z,rfl⟩:∃ z:Nat,s=z:=⟨s.toNat,by omega⟩
 rw [u64n (n:=x) (by omega),u64n (n:=y) (by omega),u64n (n:=z) (by omega)]
 have hxy:x*y<18446744073709551616:=by
  have:x*y<=4294967295*4294967295:=Nat.mul_le_mul (by omega) (by omega)
  omega
 refine use (aHo (by omega) (by omega) w) ?_
 rintro _ w1 ⟨rfl,rfl⟩
 refine ⟨_,_,rfl,use (aDj hxy (by omega) h) ?_⟩
 rintro _ w2 ⟨rfl,h2⟩
 refine ⟨_,_,rfl,?_,h2⟩
 have h3:x*y / z<=x*y:=Nat.div_le_self _ _
 have h4:x*y<=2147483647*2147483647:=Nat.mul_le_mul (by omega) (by omega)
 rw [<- Int.natCast_mul,<- Int.natCast_ediv]
 generalize x*y / z=q at*
 rw [w64 (by omega) (by omega)]
theorem aIs (n:Nat):((List.range (((n:Nat):Int).toNat*1)).map fun i=>(([Value.int .i64 0]:List Value).toArray)[i % ([Value.int .i64 0]:List Value).length]!)=intL (List.replicate n 0):=by
 rw [Int.toNat_natCast,Nat.mul_one]
 apply List.ext_getElem?
 intro i
 rw [List.getElem?_map,api,List.getElem?_replicate]
 by_cases hi:i<n
 ·rw [List.getElem?_range hi,if_pos hi]
  simp [Nat.mod_one]
 ·rw [List.getElem?_eq_none (by simpa using hi),if_neg hi];rfl
theorem aeU {n:Nat} (hb:n<1000000) (h:Sep E L w) {G:Sl ->World ->Prop} (k:∀ s w1,s.n=n ->Sep E (rowA s 1 (intL (List.replicate n 0))::L) w1 ->G s w1):
  ∃ x:Sl,∃ w1,Sem.run P (Instr.makeSlice adv (.int .i64 ((n:Nat):Int)) (.int .i64 ((n:Nat):Int))) w= .ok (.slice x.p x.n x.c) w1/\G x w1:=by
 refine makeSlice.i h (by kernel_rfl:slQ P adv=some (8,1,[.int .i64 0])) (by omega) (Int.le_refl _) (by omega) (by omega) (fun b w1 h1=>k _ w1 (by simp) ?_)
 rw [aIs] at h1
 exact rowA.make (spare:= []) (by simpa using h1) (by simp) (by simp) (Nat.le_refl _)
theorem elSt {s:Sl} {l:List Int} {i x:Int} {F:World ->Prop} (h:Sep E (rowA s 1 (intL l)::L) w) (hn:s.n=l.length) (h0:0<=i) (h1:i<l.length) (k:∀ w1,Sep E (rowA s 1 (intL (l.set i.toNat x))::L) w1 ->F w1):elAt s.p s.n i 1 fun a=>St a (.int .i64 x) F w:=by
 refine rowA.el 0 h rfl h0 (by omega) (fun b hb _=> ?_)
 rw [Nat.mul_one]
 refine rowA.st h hb (by simp;omega) (fun w1 h1=>k w1 ?_)
 have:intL (l.set i.toNat x)=(intL l).set i.toNat (.int .i64 x):=by simp [intL,List.map_set]
 rw [this];exact h1
theorem ag7:top=1099511627776:=rfl
theorem aCy {s:Sl} {l:List Nod} {t:Int} (hn:s.n=l.length) (hb:l.length<1000000) (hcap:s.n<=s.c) (hsm:∀ x∈l,x.use<2147483648) (h:Sep E (aay s l::L) w):
  Calls P agF #[.slice s.p s.n s.c,.int .i64 t] w (Ret fun v w'=>∃ e:Sl,v= .slice e.p e.n e.c/\e.n=(adu l t).length/\Sep E (rowA e 1 (intL (adu l t))::aay s l::L) w'):=by
 apply apx
 unfold ajF
 have hno:(ab8 l=false\/t<0\/(l.length:Int)<=t) ->∀ w',Sep E (aay s l::L) w' ->∃ e:Sl,Value.slice none 0 0= .slice e.p e.n e.c/\e.n=(adu l t).length/\Sep E (rowA e 1 (intL (adu l t))::aay s l::L) w':=by
  intro hc w' h'
  have e:adu l t= []:=by unfold adu;rw [if_pos hc]
  rw [e]
  exact ⟨⟨none,0,0⟩,rfl,rfl,rowA.none_ h'⟩
 refine ⟨fun w'=>ab8 l=true/\0<=t/\t<l.length/\Sep E (aay s l::L) w',use (aDl (q:=0) rfl hn hb h) ?_,?_⟩
 ·rintro _ w1 ⟨rfl,h1⟩
  refine ⟨_,rfl,?_⟩
  cases hv:ab8 l with
  | false=>exact bT rfl (hno (.inl hv) _ h1)
  | true=>exact bF rfl (bLt (fun hh=>hno (.inr (.inl hh)) _ h1) (fun hh=>bGe (fun hg=>hno (.inr (.inr (by omega))) _ h1) (fun hg=>⟨rfl,hh,by omega,h1⟩)))
 rintro _ w2 ⟨hv,ht0,ht,h2⟩
 have hfew:=aGa hv
 refine aeU (n:=s.n) (by omega) h2 (fun ss w3 hss h3=> ?_)
 rw [hn] at hss h3
 refine ⟨⟨by decide,by omega⟩,?_⟩
 have h1n:(1:Int).toNat=1:=rfl
 rw [h1n]
 let sums:Nat ->List Int:=fun k=>(List.range l.length).map fun j:Nat=>ag1 l k (j:Int)
 have hsl:∀ k,(sums k).length=l.length:=fun k=>by simp [sums]
 have hs0:List.replicate l.length (0:Int)=sums 0:=by
  apply List.ext_getElem?
  intro i
  simp only [sums,List.getElem?_replicate,List.getElem?_map]
  by_cases hi:i<l.length
  ·rw [if_pos hi,List.getElem?_range hi];rfl
  ·rw [if_neg hi,List.getElem?_eq_none (by simpa using hi)];rfl
 have hsat:∀ k (p:Int),0<=p ->p<l.length ->(sums k).getD p.toNat 0=ag1 l k p:=by
  intro k p hp hp2
  simp only [sums,List.getD_eq_getElem?_getD,List.getElem?_map]
  rw [List.getElem?_range (by omega)]
  simp only [Option.map_some,Option.getD_some]
  rw [show ((p.toNat:Nat):Int)=p by omega]
 rw [hs0] at h3
 refine ⟨fun x w'=>∃ k:Nat,x=k/\k+1<=l.length/\Sep E (rowA ss 1 (intL (sums k))::aay s l::L) w',fun x _=>(l.length - x).toNat,⟨0,rfl,by omega,h3⟩,?_⟩
 rintro _ x w4 ⟨k,rfl,hk,h4⟩
 refine bLt (fun hlt=> ?_) (fun hge=> ?_)
 ·have hlt:k+1<l.length:=by omega
  obtain ⟨y,hy⟩:∃ y,l[k+1]? =some y:=⟨_,List.getElem?_eq_getElem (by omega)⟩
  have hy':(l.drop 1)[k]? =some y:=by rw [List.getElem?_drop,Nat.add_comm];exact hy
  have hvy:=agQ hv hy
  have hvp:0<=y.parent/\y.parent<l.length:=by rcases hvy.1 with ⟨e,_⟩ | e<;>omega
  have hoy:=aou hvy.2.1 hvy.2.2
  have hel:∀ {F:Addr ->Prop},(∀ a,w4.cell? (a.add 0)=some (.int .i64 y.parent) ->w4.cell? (a.add 1)=some (.int .i64 y.use) ->w4.cell? (a.add 2)=some (.int .i64 y.own) ->F a) ->elAt (slA s.p 1 s.c 3) (s.n - 1) (k:Int) 3 F:=by
   intro F kk
   obtain ⟨b,spare,hp,g1,g2,g3,_⟩:=rowA.get_ (h4.fr 1 rfl) (by omega)
   have ea:slA s.p 1 s.c 3=some ⟨b,3,none⟩:=by unfold slA;rw [if_neg (by omega),hp];rfl
   rw [ea]
   have hE:=arC (E:=E) (f:=F) (k:=k+1) 1 h4 rfl hn (i:=((k+1:Nat):Int)) rfl hy (fun a c0 c1 c2=>kk a c0 c1 c2)
   obtain ⟨a,ha,hr,hf⟩:=hE
   rw [hp] at ha
   have:=Option.some.inj ha
   subst this
   refine ⟨_,rfl,⟨by omega,by omega⟩,?_⟩
   have e:(⟨b,3,none⟩:Addr).add (((k:Nat):Int).toNat*3)=(⟨b,0,none⟩:Addr).add ((((k+1:Nat):Int)).toNat*3):=by
    rw [aad,aad];congr 1;omega
   rw [e];exact hf
  refine hel (fun a c0 c1 c2=>⟨_,c0,_,c1,_,c2,Al.i h4 (fun p w5 h5=>zst _ h5 rfl (fun w6 h6=>Dr.i h6 (fun w7 h7=> ?_)))⟩)
  have h7:Sep E (blk p [.int .i64 y.parent,.int .i64 y.use,.int .i64 y.own]::rowA ss 1 (intL (sums k))::aay s l::L) w7:=h7
  have cell:∀ (j:Nat) {w':World},Sep E (blk p [.int .i64 y.parent,.int .i64 y.use,.int .i64 y.own]::rowA ss 1 (intL (sums k))::aay s l::L) w' ->w'.cell? ((⟨p,0,none⟩:Addr).add j)=([.int .i64 y.parent,.int .i64 y.use,.int .i64 y.own]:List Value)[j]? :=by
   intro j w' hs;rw [aad,hs.cell,Nat.zero_add]
  have hssn:ss.n=(sums k).length:=by rw [hsl,hss]
  refine ⟨_,cell 0 h7,elJ 1 h7 rfl hssn hvp.1 (by rw [hsl];exact hvp.2) (fun a2 hc2=>⟨_,hc2 1 h7 rfl,_,cell 0 h7,_,cell 1 h7,_,cell 2 h7,use (aG7 h7) ?_⟩)⟩
  rintro _ w8 ⟨rfl,h8⟩
  refine ⟨_,rfl,_,hc2 1 h8 rfl,rfl,_,cell 0 h8,rfl,?_⟩
  rw [hsat k y.parent hvp.1 hvp.2]
  have hb1:=asC hv y.parent k (by omega)
  have hb2:(k:Int)*top<=64*top:=Int.mul_le_mul_of_nonneg_right (by omega) (by decide)
  rw [w64 (by rw [ag7] at *; omega) (by rw [ag7] at *; omega)]
  refine elSt (h8.swap) hssn hvp.1 (by rw [hsl];exact hvp.2) (fun w9 h9=> ?_)
  have e:(sums k).set y.parent.toNat (ag1 l k y.parent+y.ownN)=sums (k+1):=by
   apply List.ext_getElem?
   intro i
   by_cases hi:i<l.length
   ·have e1:(sums (k+1))[i]? =some (ag1 l (k+1) (i:Int)):=by simp only [sums,List.getElem?_map,List.getElem?_range hi];rfl
    rw [e1,auH hy']
    by_cases hpi:y.parent.toNat=i
    ·subst hpi
     rw [List.getElem?_set_self (by rw [hsl];omega),if_pos (by omega),show ((y.parent.toNat:Nat):Int)=y.parent by omega]
    ·rw [List.getElem?_set_ne hpi,if_neg (by omega)]
     simp only [sums,List.getElem?_map,List.getElem?_range hi];rfl
   ·rw [List.getElem?_eq_none (by rw [List.length_set,hsl];omega),List.getElem?_eq_none (by rw [hsl];omega)]
  rw [e] at h9
  exact ⟨⟨k+1,aah (by omega),by omega,h9.ro 2 [0] rfl⟩,by dsimp only;rw [aah (by omega)];omega⟩
 ·have:k=l.length - 1:=by omega
  subst this
  have hall:∀ p:Int,0<=p ->p<l.length ->(sums (l.length - 1)).getD p.toNat 0=sumOf l p:=fun p h0 h1=>by rw [hsat _ p h0 h1,axy]
  generalize hS:sums (l.length - 1)=S at h4 hall
  have hSl:S.length=l.length:=by rw [<- hS,hsl]
  have hSok:∀ p:Int,0<=sumOf l p/\sumOf l p<=64*top:=by
   intro p
   rw [<- axy p]
   have:=asC hv p (l.length - 1) (by omega)
   have hb2:((l.length - 1:Nat):Int)*top<=64*top:=Int.mul_le_mul_of_nonneg_right (by omega) (by decide)
   omega
  refine aeU (n:=s.n) (by omega) h4 (fun o w5 ho h5=> ?_)
  rw [hn] at ho h5
  have hpl:∀ k,k<=l.length ->(aa5 l t k).length=k:=fun k hk=>alz hk
  refine ⟨fun x w'=>∃ k:Nat,x=k/\k<=l.length/\Sep E (rowA o 1 (intL (aa5 l t k++List.replicate (l.length - k) 0))::rowA ss 1 (intL S)::aay s l::L) w',fun x _=>(l.length - x).toNat,
   ⟨0,rfl,Nat.zero_le _,h5⟩,?_⟩
  rintro _ x w6 ⟨k,rfl,hk,h6⟩
  refine bLt (fun hlt=> ?_) (fun hge=> ?_)
  ·have hlt:k<l.length:=by omega
   obtain ⟨y,hy⟩:∃ y,l[k]? =some y:=⟨_,List.getElem?_eq_getElem (by omega)⟩
   have hvy:=agQ hv hy
   have hoy:=aou hvy.2.1 hvy.2.2
   have hysm:=hsm y (List.mem_of_getElem? hy)
   have hon:∀ k',k'<=l.length ->o.n=(aa5 l t k'++List.replicate (l.length - k') 0).length:=fun k' hk'=>by rw [ho,List.length_append,hpl k' hk',List.length_replicate];omega
   refine arC 2 h6 rfl hn rfl hy (fun a c0 c1 c2=>⟨_,c0,_,c1,_,c2,Al.i h6 (fun p w7 h7=>zst _ h7 rfl (fun w8 h8=> ?_))⟩)
   have cell:∀ (j:Nat) {w':World} {M:List Asn},Sep E (blk p [.int .i64 y.parent,.int .i64 y.use,.int .i64 y.own]::M) w' ->w'.cell? ((⟨p,0,none⟩:Addr).add j)=([.int .i64 y.parent,.int .i64 y.use,.int .i64 y.own]:List Value)[j]? :=by
    intro j w' M hs;rw [aad,hs.cell,Nat.zero_add]
   have zero:aix l t (aa5 l t k) k y=0 ->∀ {w':World},Sep E (rowA o 1 (intL (aa5 l t k++List.replicate (l.length - k) 0))::rowA ss 1 (intL S)::aay s l::L) w' ->
     (∃ k':Nat,IntKind.i64.wrap ((k:Int)+1)=k'/\k'<=l.length/\Sep E (rowA o 1 (intL (aa5 l t k'++List.replicate (l.length - k') 0))::rowA ss 1 (intL S)::aay s l::L) w')/\(l.length - IntKind.i64.wrap ((k:Int)+1)).toNat<(l.length - (k:Int)).toNat:=by
    intro hz w' h'
    refine ⟨⟨k+1,aah (by omega),by omega,?_⟩,by rw [aah (by omega)];omega⟩
    rw [anI hy,hz,List.append_assoc]
    have: [(0:Int)]++List.replicate (l.length - (k+1)) 0=List.replicate (l.length - k) 0:=by
     rw [show l.length - k=(l.length - (k+1))+1 by omega,List.replicate_succ];rfl
    rw [this];exact h'
   refine ⟨fun w'=>(k:Int)≠t/\agT l k t=true/\Sep E (blk p [.int .i64 y.parent,.int .i64 y.use,.int .i64 y.own]::rowA o 1 (intL (aa5 l t k++List.replicate (l.length - k) 0))::rowA ss 1 (intL S)::aay s l::L) w',
    bEq (fun e=>zero (by unfold aix;rw [if_pos (.inl e)]) h8.tail) (fun hne=>use (aDm (q:=3) rfl hn hv (by omega) ht0 h8) ?_),?_⟩
   ·rintro _ w9 ⟨rfl,h9⟩
    have h9:Sep E (aay s l::blk p [.int .i64 y.parent,.int .i64 y.use,.int .i64 y.own]::rowA o 1 (intL (aa5 l t k++List.replicate (l.length - k) 0))::rowA ss 1 (intL S)::L) w9:=h9
    refine ⟨_,rfl,?_⟩
    cases hbl:agT l (k:Int) t with
    | false=>exact bT rfl (zero (by unfold aix;rw [if_pos (.inr hbl)]) (h9.ro 4 [2,3,0] rfl))
    | true=>exact bF rfl ⟨hne,rfl,h9.ro 4 [1,2,3,0] rfl⟩
   ·rintro _ w9 ⟨hne,hbl,h9⟩
    have hpar:=aAP hv ht0 hy hbl hne
    refine ⟨_,cell 0 h9,_,cell 1 h9,_,cell 2 h9,use (aG7 h9) ?_⟩
    rintro _ w10 ⟨rfl,h10⟩
    refine ⟨_,rfl,elSt h10.swap (hon k (by omega)) (by omega) (by rw [List.length_append,hpl k (by omega),List.length_replicate];omega) (fun w11 h11=> ?_)⟩
    have e1:(aa5 l t k++List.replicate (l.length - k) 0).set ((k:Nat):Int).toNat y.ownN=aa5 l t k++y.ownN::List.replicate (l.length - (k+1)) 0:=by
     rw [Int.toNat_natCast,List.set_append_right _ _ (by rw [hpl k (by omega)];exact Nat.le_refl _),hpl k (by omega),Nat.sub_self,show l.length - k=(l.length - (k+1))+1 by omega,List.replicate_succ,List.set_cons_zero]
    rw [e1] at h11
    have hlen2:(aa5 l t k++y.ownN::List.replicate (l.length - (k+1)) 0).length=l.length:=by rw [List.length_append,hpl k (by omega),List.length_cons,List.length_replicate];omega
    have hon2:o.n=(aa5 l t k++y.ownN::List.replicate (l.length - (k+1)) 0).length:=by rw [hlen2,ho]
    have h11:Sep E (rowA o 1 (intL (aa5 l t k++y.ownN::List.replicate (l.length - (k+1)) 0))::blk p [.int .i64 y.parent,.int .i64 y.use,.int .i64 y.own]::rowA ss 1 (intL S)::aay s l::L) w11:=h11
    have h12:=h11.swap
    have hsp:=hSok y.parent
    refine ⟨_,cell 0 h12,elI 2 h12 rfl (by rw [hss,hSl]) hpar.1 (by rw [hSl];omega) (fun a3 hc3=>⟨_,hc3,?_⟩)⟩
    rw [hall y.parent hpar.1 (by omega)]
    have hpre:(aa5 l t k++y.ownN::List.replicate (l.length - (k+1)) 0).getD y.parent.toNat 0=(aa5 l t k).getD y.parent.toNat 0:=by
     rw [List.getD_eq_getElem?_getD,List.getElem?_append_left (by rw [hpl k (by omega)];omega),<- List.getD_eq_getElem?_getD]
    have heffp:0<=(aa5 l t k).getD y.parent.toNat 0/\(aa5 l t k).getD y.parent.toNat 0<2147483648:=by
     rw [List.getD_eq_getElem?_getD,List.getElem?_eq_getElem (by rw [hpl k (by omega)];omega)]
     have:=art hv k (by omega) y.parent.toNat _ (List.getElem?_eq_getElem (by rw [hpl k (by omega)];omega))
     obtain ⟨g1,x,hx,g2⟩:=this
     have:=hsm x (List.mem_of_getElem? hx)
     have hvx:=agQ hv hx
     have:=aou hvx.2.1 hvx.2.2
     simp only [Option.getD_some]
     exact ⟨g1,by omega⟩
    have done:∀ {w':World} (z:Int),aix l t (aa5 l t k) k y=z ->Sep E (rowA o 1 (intL (aa5 l t k++z::List.replicate (l.length - (k+1)) 0))::blk p [.int .i64 y.parent,.int .i64 y.use,.int .i64 y.own]::rowA ss 1 (intL S)::aay s l::L) w' ->
      (∃ k':Nat,IntKind.i64.wrap ((k:Int)+1)=k'/\k'<=l.length/\Sep E (rowA o 1 (intL (aa5 l t k'++List.replicate (l.length - k') 0))::rowA ss 1 (intL S)::aay s l::L) w')/\(l.length - IntKind.i64.wrap ((k:Int)+1)).toNat<(l.length - (k:Int)).toNat:=by
     intro w' z hz h'
     refine ⟨⟨k+1,aah (by omega),by omega,?_⟩,by rw [aah (by omega)];omega⟩
     rw [anI hy,hz,List.append_assoc]
     exact h'.ro 4 [0,2,3] rfl
    have hif:aix l t (aa5 l t k) k y=if y.parent≠t/\(aa5 l t k).getD y.parent.toNat 0<sumOf l y.parent then y.ownN*(aa5 l t k).getD y.parent.toNat 0 / sumOf l y.parent else y.ownN:=by
     unfold aix
     rw [if_neg (by rintro (c | c);exact hne c;rw [hbl] at c;cases c)]
    refine ⟨fun q w'=>q=decide (y.parent≠t/\(aa5 l t k).getD y.parent.toNat 0<sumOf l y.parent)/\w'=w11,⟨_,cell 0 h12,bNe (fun hpt=>⟨_,cell 0 h12,elI 1 h12 rfl hon2 hpar.1 (by rw [hlen2];omega) (fun a4 hc4=>⟨_,hc4,?_,rfl⟩)⟩) (fun hpt=>⟨?_,rfl⟩)⟩,?_⟩
    ·rw [hpre]
     by_cases hcmp:(aa5 l t k).getD y.parent.toNat 0<sumOf l y.parent
     ·rw [decide_eq_true hcmp,decide_eq_true ⟨hpt,hcmp⟩]
     ·rw [decide_eq_false hcmp,decide_eq_false (fun c=>hcmp c.2)]
    ·rw [decide_eq_false (fun c=>c.1 hpt)]
    ·rintro _ q w13 ⟨rfl,rfl⟩
     by_cases hc:y.parent≠t/\(aa5 l t k).getD y.parent.toNat 0<sumOf l y.parent
     ·rw [decide_eq_true hc]
      rw [if_pos hc] at hif
      refine bT rfl (Dr.i h11 (fun w14 h14=>elI 0 h14 rfl hon2 (by omega) (by rw [hlen2];omega) (fun a5 hc5=>⟨_,hc5,_,cell 0 h14.swap,elI 0 h14 rfl hon2 hpar.1 (by rw [hlen2];omega) (fun a6 hc6=>⟨_,hc6,?_⟩)⟩)))
      have hself:(aa5 l t k++y.ownN::List.replicate (l.length - (k+1)) 0).getD ((k:Nat):Int).toNat 0=y.ownN:=by
       rw [Int.toNat_natCast,List.getD_eq_getElem?_getD,List.getElem?_append_right (by rw [hpl k (by omega)];exact Nat.le_refl _),hpl k (by omega),Nat.sub_self];rfl
      rw [hself,hpre]
      refine use (aH6 ⟨hoy.1,by omega⟩ heffp ⟨by omega,by rw [ag7] at *; omega⟩ h14) ?_
      rintro _ w15 ⟨rfl,h15⟩
      refine ⟨_,rfl,elSt h15 hon2 (by omega) (by rw [hlen2];omega) (fun w16 h16=>done _ hif ?_)⟩
      rw [Int.toNat_natCast,List.set_append_right _ _ (by rw [hpl k (by omega)];exact Nat.le_refl _),hpl k (by omega),Nat.sub_self,List.set_cons_zero] at h16
      exact h16
     ·rw [decide_eq_false hc]
      rw [if_neg hc] at hif
      exact bF rfl (done _ hif h11)
  ·have:k=l.length:=by omega
   subst this
   rw [Nat.sub_self,List.replicate_zero,List.append_nil] at h6
   have e:aa5 l t l.length=adu l t:=by
    unfold aa5 adu
    rw [List.take_length,if_neg]
    rintro (c | c | c)
    ·rw [hv] at c;cases c
    ·omega
    ·omega
   rw [e] at h6
   exact ⟨o,rfl,by rw [<- e,hpl _ (Nat.le_refl _),ho],h6.ro 3 [0,2] rfl⟩
end Go.Mp
end
section
set_option maxRecDepth 100000
namespace Go.Mp
open Go Go.Vc Go.Sp Go.Stab
section
variable {E:Env} {L:List Asn} {w:World} {s:Sl} {l:List Int}
theorem abo.use {Q:Program} {g:Value} {args:Array Value} {w:World} {R R':Ending ->World ->Prop} (h:abo Q g args w R) (k:∀ e w',R e w' ->R' e w'):abo Q g args w R':=by
 obtain ⟨f,ca,h1,h2,h3⟩:=h
 exact ⟨f,ca,h1,h2,h3.mono k⟩
theorem elL {F:Int ->Prop} {i x:Int} (k:Nat) (h:Sep E (rowA s 1 (intL l)::L) w) (hn:s.n=l.length) (hi:i=k) (hx:l[k]? =some x) (f:F x):elAt s.p s.n i 1 fun a=>∃ v:Int,w.cell? a=some (.int .i64 v)/\F v:=by
 have hlt:=(List.getElem?_eq_some_iff.1 hx).1
 refine elI 0 h rfl hn (by omega) (by omega) (fun a ha=>⟨_,ha,?_⟩)
 have e:i.toNat=k:=by omega
 rw [e,List.getD,hx];exact f
theorem elS {f:World ->Prop} {i x:Int} (k:Nat) (h:Sep E (rowA s 1 (intL l)::L) w) (hn:s.n=l.length) (hi:i=k) (hk:k<l.length) (g:∀ w1,Sep E (rowA s 1 (intL (l.set k x))::L) w1 ->f w1):
  elAt s.p s.n i 1 fun a=>St a (.int .i64 x) f w:=by
 refine rowA.el 0 h rfl (by omega) (by omega) (fun b hb _=> ?_)
 have e:i.toNat*1=k:=by omega
 rw [e]
 refine rowA.st h hb (by simpa using hk) (fun w1 h1=>g w1 ?_)
 have:intL (l.set k x)=(intL l).set k (.int .i64 x):=by simp [intL,List.map_set]
 rw [this];exact h1
def Cmps (E:Env) (L:List Asn) (s:Sl) (cmp:Value) (lt:Int ->Int ->Bool) (n:Nat):Prop:=
 ∀ (l:List Int) (x y:Int) (w:World),l.length=n ->Sep E (rowA s 1 (intL l)::L) w ->abo P cmp #[.int .i64 x,.int .i64 y] w fun e w'=>∃ r:Int,e= .returned (.int .i64 r)/\decide (r<0)=lt x y/\Sep E (rowA s 1 (intL l)::L) w'
variable {cmp:Value} {lt:Int ->Int ->Bool} {n:Nat}
theorem Cmps.i (hc:Cmps E L s cmp lt n) (hl:l.length=n) (h:Sep E (rowA s 1 (intL l)::L) w) {x y:Int} {A B:World ->Prop} (k1:lt x y=true ->∀ w',Sep E (rowA s 1 (intL l)::L) w' ->A w') (k2:lt x y=false ->∀ w',Sep E (rowA s 1 (intL l)::L) w' ->B w'):
  abo P cmp #[.int .i64 x,.int .i64 y] w fun e w'=>∃ r:Int,e= .returned (.int .i64 r)/\bif decide (r<0) then A w' else B w':=by
 refine abo.use (hc l x y w hl h) ?_
 rintro e w' ⟨r,rfl,hr,h'⟩
 refine ⟨r,rfl,?_⟩
 rw [hr]
 cases hb:lt x y with
 | true=>exact k1 hb w' h'
 | false=>exact k2 hb w' h'
theorem Cmps.j (hc:Cmps E L s cmp lt n) (hl:l.length=n) (h:Sep E (rowA s 1 (intL l)::L) w) {x y:Int} {A B:World ->Prop} (k1:lt x y=true ->∀ w',Sep E (rowA s 1 (intL l)::L) w' ->A w') (k2:lt x y=false ->∀ w',Sep E (rowA s 1 (intL l)::L) w' ->B w'):
  abo P cmp #[.int .i64 x,.int .i64 y] w fun e w'=>∃ r:Int,e= .returned (.int .i64 r)/\bif (!(decide (r<0))) then B w' else A w':=by
 refine abo.use (hc l x y w hl h) ?_
 rintro e w' ⟨r,rfl,hr,h'⟩
 refine ⟨r,rfl,?_⟩
 rw [hr]
 cases hb:lt x y with
 | true=>exact k1 hb w' h'
 | false=>exact k2 hb w' h'
structure agp (R b:Int ->Int ->Prop) (lt:Int ->Int ->Bool):Prop where
 ord:Ord R
 ne:∀ x y,b x y ->x≠y
 ask:∀ x y,b x y ->(lt y x=true↔R y x)
variable {R b:Int ->Int ->Prop}
theorem agp.no (K:agp R b lt) {x y:Int} (hb:b x y) (h:lt y x=false):R x y:=
 K.ord.not (Ne.symm (K.ne x y hb)) (fun hr=>by rw [(K.ask x y hb).2 hr] at h;cases h)
theorem half {i j:Int} (h1:0<=i+j) (h2:i+j<=4611686018427387904):IntKind.i64.wrap ((IntKind.u64.wrap (IntKind.i64.wrap (i+j))).fdiv (2 ^ (min (1:Int).toNat 64)))=(i+j) / 2:=by
 have e1:IntKind.i64.wrap (i+j)=i+j:=w64 (by omega) (by omega)
 have e2:IntKind.u64.wrap (i+j)=i+j:=by
  unfold IntKind.wrap
  simp only [IntKind.signed,IntKind.bits,Bool.false_and]
  rw [if_neg (by simp)];omega
 have e3:(i+j).fdiv (2 ^ (min (1:Int).toNat 64))=(i+j) / 2:=by
  show (i+j).fdiv 2=_
  rw [Int.fdiv_eq_ediv_of_nonneg _ (by decide)]
 rw [e1,e2,e3,w64 (by omega) (by omega)]
theorem getA {A B:List Int} {k:Nat} :(A++B)[A.length+k]? =B[k]? :=by
 rw [List.getElem?_append_right (by omega)];congr 1;omega
theorem aef {A P B:List Int} {i k:Nat} {x:Int} (hi:i<=P.length) (hk:k<=P.length):(A++ins P i x++B)[A.length+k]? =if k<i then P[k]? else if k=i then some x else P[k - 1]? :=by
 have:=acZ P i x
 rw [List.append_assoc,getA,List.getElem?_append_left (by omega),ama P i x hi]
theorem aio {A M B:List Int} (K:agp R b lt) (hM:M.Pairwise b) (hn:s.n=(A++M++B).length) (hbig:(A++M++B).length<4611686018427387904) (hc:Cmps E L s cmp lt (A++M++B).length)
  (h:Sep E (rowA s 1 (intL (A++M++B))::L) w) {a e:Int} (ha:a=A.length) (he:e=A.length+M.length):
  Calls P abT #[.slice s.p s.n s.c,.int .i64 a,.int .i64 e,cmp] w (Ret fun v w'=>v= .tuple #[]/\∃ M',M'.Perm M/\M'.Pairwise R/\Sep E (rowA s 1 (intL (A++M'++B))::L) w'):=by
 subst ha he
 have hlen:(A++M++B).length=A.length+M.length+B.length:=by simp;omega
 apply aii
 unfold aey
 rw [hlen] at hn hbig hc
 refine ⟨fun i w=>∃ (k:Nat) (S:List Int),i=A.length+k/\1<=k/\(k<=M.length\/M= [])/\S.Perm (M.take k)/\S.Pairwise R/\Sep E (rowA s 1 (intL (A++S++(M.drop k++B)))::L) w,fun i _=>(A.length+M.length - i).toNat,?_,?_⟩
 ·rw [w64 (by omega) (by omega)]
  refine ⟨1,M.take 1,by omega,Nat.le_refl _,?_,.refl _,?_,?_⟩
  ·cases M with
   | nil=>exact .inr rfl
   | cons x M=>left;simp
  ·cases M with
   | nil=>simp
   | cons x M=>simp
  ·have:A++M.take 1++(M.drop 1++B)=A++M++B:=by
    rw [<- List.append_assoc,List.append_assoc A,List.take_append_drop]
   rw [this];exact h
 rintro _ i w1 ⟨k,S,rfl,hk1,hk2,hS,hSR,h1⟩
 refine bLt (fun hlt=> ?_) (fun hge=>⟨rfl,S,?_,hSR,?_⟩)
 ·have hkM:k<M.length:=by omega
  have hSl:S.length=k:=by rw [hS.length_eq];simp;omega
  have hx:M[k]? =some M[k]:=List.getElem?_eq_getElem hkM
  generalize hxe:M[k]=x at hx
  have hdrop:M.drop k=x::M.drop (k+1):=by rw [<- hxe];exact List.drop_eq_getElem_cons hkM
  have hbx:∀ y∈S,b y x:=by
   intro y hy
   obtain ⟨j,hj,hjy⟩:=afX (hS.mem_iff.1 hy)
   exact ak3 hM hjy hx hj
  refine ⟨fun j w=>∃ m:Nat,j=A.length+m/\m<=k/\(k<=m\/∃ y,S[m]? =some y/\R x y)/\Sep E (rowA s 1 (intL (A++ins S m x++(M.drop (k+1)++B)))::L) w,fun j _=>(j - A.length).toNat,?_,?_⟩
  ·refine ⟨k,rfl,Nat.le_refl _,.inl (Nat.le_refl _),?_⟩
   have e:A++ins S k x++(M.drop (k+1)++B)=A++S++(M.drop k++B):=by
    rw [<- hSl,asV,hSl,hdrop];simp
   rw [e];exact h1
  rintro _ j w2 ⟨m,rfl,hmk,hm2,h2⟩
  have hll:(A++ins S m x++(M.drop (k+1)++B)).length=A.length+M.length+B.length:=by
   have:=acZ S m x
   simp only [List.length_append,this,List.length_drop];omega
  have out:∀ {w3:World},(m=0\/∃ y,S[m - 1]? =some y/\R y x) ->Sep E (rowA s 1 (intL (A++ins S m x++(M.drop (k+1)++B)))::L) w3 ->
    ((∃ (k':Nat) (S:List Int),(IntKind.i64.wrap (A.length+k+1))=A.length+k'/\1<=k'/\(k'<=M.length\/M= [])/\S.Perm (M.take k')/\S.Pairwise R/\Sep E (rowA s 1 (intL (A++S++(M.drop k'++B)))::L) w3)/\
     (A.length+M.length - IntKind.i64.wrap (A.length+k+1)).toNat<(A.length+M.length - (A.length+k:Int)).toNat):=by
   intro w3 hlast h3
   rw [w64 (by omega) (by omega)]
   refine ⟨⟨k+1,ins S m x,by omega,by omega,.inl (by omega),?_,?_,h3⟩,by omega⟩
   ·refine (ako S m x).trans ?_
    rw [List.take_add_one,hx]
    exact (List.Perm.cons x hS).trans (List.perm_append_comm (l₁:= [x]))
   ·exact aoi K.ord hSR hlast (by rw [hSl];exact hm2)
  refine ⟨fun w=>∃ m' y,m=m'+1/\S[m']? =some y/\R x y/\Sep E (rowA s 1 (intL (A++ins S m x++(M.drop (k+1)++B)))::L) w,?_,?_⟩
  ·refine Dr.i h2 (fun w3 h3=>bGt (fun hgt=> ?_) (fun hle=> ?_))
   ·obtain ⟨m',rfl⟩:∃ m',m=m'+1:=⟨m - 1,by omega⟩
    have hy:S[m']? =some (S[m']'(by omega)):=List.getElem?_eq_getElem (by omega)
    generalize S[m']'(by omega)=y at hy
    have hyS:y∈S:=List.mem_of_getElem? hy
    rw [w64 (by omega) (by omega)]
    refine elL (A.length+(m'+1)) h3 (by rw [hn,hll]) (by omega) (by rw [aef (by omega) (by omega),if_neg (by omega),if_pos rfl]) ?_
    refine elL (A.length+m') h3 (by rw [hn,hll]) (by omega) (by rw [aef (by omega) (by omega),if_pos (by omega)];exact hy) ?_
    refine hc.i hll h3 (fun ht w4 h4=>⟨m',y,rfl,hy,(K.ask y x (hbx y hyS)).1 ht,h4⟩) (fun hf w4 h4=>out (.inr ⟨y,hy,K.no (hbx y hyS) hf⟩) h4)
   ·exact out (.inl (by omega)) h3
  ·rintro _ w3 ⟨m',y,rfl,hy,hr,h3⟩
   have hm':m'<S.length:=(List.getElem?_eq_some_iff.1 hy).1
   refine Dr.i h3 (fun w4 h4=> ?_)
   rw [w64 (n:=A.length+((m'+1:Nat):Int) - 1) (by omega) (by omega)]
   refine elL (A.length+m') h4 (by rw [hn,hll]) (by omega) (by rw [aef (by omega) (by omega),if_pos (by omega)];exact hy) ?_
   refine elL (A.length+(m'+1)) h4 (by rw [hn,hll]) (by omega) (by rw [aef (by omega) (by omega),if_neg (by omega),if_pos rfl]) ?_
   refine elS (A.length+(m'+1)) h4 (by rw [hn,hll]) (by omega) (by omega) (fun w5 h5=> ?_)
   refine elS (A.length+m') h5 (by rw [List.length_set,hn,hll]) (by omega) (by rw [List.length_set];omega) (fun w6 h6=> ?_)
   rw [<- Nat.add_assoc,aph hy] at h6
   exact ⟨⟨m',by omega,by omega,.inr ⟨y,hy,hr⟩,h6⟩,by dsimp only;omega⟩
 ·rcases hk2 with hk2 | hk2
  ·have:k=M.length:=by omega
   rw [this,List.take_length] at hS;exact hS
  ·subst hk2;simpa using hS
 ·have:M.drop k= []:=by
   rcases hk2 with hk2 | hk2
   ·exact List.drop_of_length_le (by omega)
   ·subst hk2;simp
  rw [this,List.nil_append] at h1;exact h1
theorem afy {A U M V B:List Int} (hUV:U.length=V.length) (hn:s.n=(A++U++M++V++B).length) (hbig:(A++U++M++V++B).length<4611686018427387904)
  (h:Sep E (rowA s 1 (intL (A++U++M++V++B))::L) w) {a e n':Int} (ha:a=A.length) (he:e=A.length+U.length+M.length) (hn':n'=U.length):
  Calls P abM #[.slice s.p s.n s.c,.int .i64 a,.int .i64 e,.int .i64 n',cmp] w (Ret fun v w'=>v= .tuple #[]/\Sep E (rowA s 1 (intL (A++V++M++U++B))::L) w'):=by
 subst ha he hn'
 have hlen:(A++U++M++V++B).length=A.length+U.length+M.length+V.length+B.length:=by simp only [List.length_append]
 apply ajt
 unfold afv
 refine ⟨fun i w=>∃ (k:Nat) (l':List Int),i=k/\k<=U.length/\afL (A++U++M++V++B) l' A.length (A.length+U.length+M.length) k/\Sep E (rowA s 1 (intL l')::L) w,fun i _=>(U.length - i).toNat,⟨0,_,rfl,Nat.zero_le _,afL.zero _ _ _,h⟩,?_⟩
 rintro _ i w1 ⟨k,l',rfl,hk,hs,h1⟩
 have hll:l'.length=s.n:=by rw [hs.1,hn]
 refine bLt (fun hlt=>Dr.i h1 (fun w2 h2=> ?_)) (fun hge=>⟨rfl,?_⟩)
 ·rw [w64 (n:=(A.length:Int)+U.length+M.length+k) (by omega) (by omega),w64 (n:=(A.length:Int)+k) (by omega) (by omega),w64 (n:=(k:Int)+1) (by omega) (by omega)]
  have hx:l'[A.length+U.length+M.length+k]? =some (l'[A.length+U.length+M.length+k]'(by omega)):=List.getElem?_eq_getElem (by omega)
  have hy:l'[A.length+k]? =some (l'[A.length+k]'(by omega)):=List.getElem?_eq_getElem (by omega)
  generalize l'[A.length+U.length+M.length+k]'(by omega)=x at hx
  generalize l'[A.length+k]'(by omega)=y at hy
  refine elL _ h2 hll.symm (by omega) hx (elL _ h2 hll.symm (by omega) hy ?_)
  refine elS (A.length+k) h2 hll.symm (by omega) (by omega) (fun w3 h3=>elS (A.length+U.length+M.length+k) h3 (by rw [List.length_set];exact hll.symm) (by omega) (by rw [List.length_set];omega) (fun w4 h4=> ?_))
  exact ⟨⟨k+1,_,by omega,by omega,hs.step (n:=U.length) (by omega) (by omega) hx hy,h4⟩,by dsimp only;omega⟩
 ·have:k=U.length:=by omega
  subst this
  rw [hs.eq hUV] at h1;exact h1
theorem auX {A X Y B:List Int} (hX:1<=X.length) (hY:1<=Y.length) (hn:s.n=(A++X++Y++B).length) (hbig:(A++X++Y++B).length<4611686018427387904)
  (h:Sep E (rowA s 1 (intL (A++X++Y++B))::L) w) {a m e:Int} (ha:a=A.length) (hm:m=A.length+X.length) (he:e=A.length+X.length+Y.length):
  Calls P aeb #[.slice s.p s.n s.c,.int .i64 a,.int .i64 m,.int .i64 e,cmp] w (Ret fun v w'=>v= .tuple #[]/\Sep E (rowA s 1 (intL (A++Y++X++B))::L) w'):=by
 subst ha hm he
 have hlen:(A++X++Y++B).length=A.length+X.length+Y.length+B.length:=by simp only [List.length_append]
 apply akY
 unfold agl
 rw [w64 (n:=(A.length:Int)+X.length - A.length) (by omega) (by omega),w64 (n:=(A.length:Int)+X.length+Y.length - (A.length+X.length)) (by omega) (by omega)]
 refine ⟨fun i j w=>∃ A' X' Y' B':List Int,i=X'.length/\j=Y'.length/\1<=X'.length/\1<=Y'.length/\A'.length+X'.length=A.length+X.length/\A'++Y'++X'++B'=A++Y++X++B/\Sep E (rowA s 1 (intL (A'++X'++Y'++B'))::L) w,
  fun i j _=>(i+j).toNat,⟨A,X,Y,B,by omega,by omega,hX,hY,rfl,rfl,h⟩,?_⟩
 rintro _ i j w1 ⟨A',X',Y',B',rfl,rfl,hX',hY',hm',htar,h1⟩
 have hl0:A'.length+Y'.length+X'.length+B'.length=A.length+X.length+Y.length+B.length:=by
  have:=congrArg List.length htar
  simp only [List.length_append] at this;omega
 have hn1:s.n=A'.length+Y'.length+X'.length+B'.length:=by omega
 rw [w64 (n:=(A.length:Int)+X.length - X'.length) (by omega) (by omega)]
 refine bNe (fun hne=>bGt (fun hgt=> ?_) (fun hle=> ?_)) (fun heq=> ?_)
 ·
  have e1:A'++X'++Y'++B'=A'++X'.take Y'.length++X'.drop Y'.length++Y'++B':=by rw [List.append_assoc A' (X'.take _),List.take_append_drop]
  have l1:(X'.take Y'.length).length=Y'.length:=by simp;omega
  have l2:(X'.drop Y'.length).length=X'.length - Y'.length:=by simp
  rw [e1] at h1
  refine use (afy (cmp:=cmp) l1 (by simp only [List.length_append,l1,l2];omega) (by simp only [List.length_append,l1,l2];omega) h1 (by omega) (by omega) (by omega)) ?_
  rintro _ w2 ⟨rfl,h2⟩
  rw [w64 (by omega) (by omega)]
  refine ⟨rfl,⟨A'++Y',X'.drop Y'.length,X'.take Y'.length,B',by omega,by omega,by omega,by omega,by simp only [List.length_append];omega,?_,h2⟩,by dsimp only;omega⟩
  rw [<- htar,List.append_assoc (A'++Y'),List.take_append_drop]
 ·have e1:A'++X'++Y'++B'=A'++X'++Y'.take (Y'.length - X'.length)++Y'.drop (Y'.length - X'.length)++B':=by rw [List.append_assoc (A'++X') (Y'.take _),List.take_append_drop]
  have l1:(Y'.take (Y'.length - X'.length)).length=Y'.length - X'.length:=by simp
  have l2:(Y'.drop (Y'.length - X'.length)).length=X'.length:=by simp;omega
  rw [e1] at h1
  rw [w64 (n:=(A.length:Int)+X.length+Y'.length) (by omega) (by omega),w64 (n:=(A.length:Int)+X.length+Y'.length - X'.length) (by omega) (by omega)]
  refine use (afy (cmp:=cmp) l2.symm (by simp only [List.length_append,l1,l2];omega) (by simp only [List.length_append,l1,l2];omega) h1 (by omega) (by omega) (by omega)) ?_
  rintro _ w2 ⟨rfl,h2⟩
  rw [w64 (by omega) (by omega)]
  refine ⟨rfl,⟨A',Y'.drop (Y'.length - X'.length),Y'.take (Y'.length - X'.length),X'++B',by omega,by omega,by omega,by omega,by omega,?_,?_⟩,by dsimp only;omega⟩
  ·rw [<- htar,List.append_assoc A' (Y'.take _),List.take_append_drop];simp
  ·have:A'++Y'.drop (Y'.length - X'.length)++Y'.take (Y'.length - X'.length)++X'++B'=A'++Y'.drop (Y'.length - X'.length)++Y'.take (Y'.length - X'.length)++(X'++B'):=by simp
   rw [<- this];exact h2
 ·have heq':X'.length=Y'.length:=by omega
  have e1:A'++X'++Y'++B'=A'++X'++ []++Y'++B':=by simp
  rw [e1] at h1
  refine use (afy (cmp:=cmp) heq' (by simp only [List.length_append,List.length_nil];omega) (by simp only [List.length_append,List.length_nil];omega) h1 (by omega) (by simp only [List.length_nil];omega) (by omega)) ?_
  rintro _ w2 ⟨rfl,h2⟩
  refine ⟨rfl,rfl,?_⟩
  rw [<- htar]
  have:A'++Y'++ []++X'++B'=A'++Y'++X'++B':=by simp
  rw [this] at h2;exact h2
end
end Go.Mp
end
section
set_option maxRecDepth 100000
namespace Go.Mp.Sh
open Go Go.Vc Go.Sp Go.Stab Go.Mp
structure Rst where
 at_:Int
 low:Int
def Rst.vs (x:Rst):List Value:= [.int .i64 x.at_,.int .u64 x.low]
theorem Rst.vs2 (x:Rst):x.vs.length=2:=rfl
section
variable {E:Env} {L:List Asn} {w:World} {s:Sl} {l:List Rst}
theorem elL {F:Int ->Int ->Prop} {i:Int} {x:Rst} (k:Nat) (h:Sep E (rowA s 2 (recs Rst.vs l)::L) w) (hn:s.n=l.length) (hi:i=k) (hx:l[k]? =some x) (f:F x.at_ x.low):elAt s.p s.n i 2 fun a=>∃ v:Int,w.cell? (a.add 0)=some (.int .i64 v)/\∃ u:Int,w.cell? (a.add 1)=some (.int .u64 u)/\F v u:=
 elC Rst.vs2 0 h rfl hn hi hx (fun b _ hc=>⟨_,by rw [aad];exact hc 0 _ rfl,_,by rw [aad];exact hc 1 _ rfl,f⟩)
theorem elS {f:World ->Prop} {i:Int} {x:Rst} (k:Nat) (h:Sep E (rowA s 2 (recs Rst.vs l)::L) w) (hn:s.n=l.length) (hi:i=k) (hk:k<l.length) (g:∀ w1,Sep E (rowA s 2 (recs Rst.vs (l.set k x))::L) w1 ->f w1):
  elAt s.p s.n i 2 fun a=>StN [.int .i64 x.at_,.int .u64 x.low] a f w:=by
 refine rowA.el 0 h rfl (by omega) (by omega) (fun b hb _=> ?_)
 have e:i.toNat=k:=by omega
 rw [e]
 have hle:(k+1)*2<=l.length*2:=Nat.mul_le_mul_right _ hk
 refine rowA.stN h hb (by show 0<2;decide) (by rw [ag5 Rst.vs2];simp;omega) (fun w1 h1=>g w1 ?_)
 have:=aDc Rst.vs2 (l:=l) (i:=k) (j:=0) (a:=l[k]) (a':=x) (xs:= [.int .i64 x.at_,.int .u64 x.low]) (List.getElem?_eq_getElem hk) (by show 0+2<=2;decide) rfl
 rw [Nat.add_zero] at this
 rw [this] at h1;exact h1
def Cmps (E:Env) (L:List Asn) (s:Sl) (cmp:Value) (lt:Rst ->Rst ->Bool) (n:Nat):Prop:=
 ∀ (l:List Rst) (x y:Rst) (w:World),l.length=n ->Sep E (rowA s 2 (recs Rst.vs l)::L) w ->abo P cmp #[.agg #[.int .i64 x.at_,.int .u64 x.low],.agg #[.int .i64 y.at_,.int .u64 y.low]] w fun e w'=>∃ r:Int,e= .returned (.int .i64 r)/\decide (r<0)=lt x y/\Sep E (rowA s 2 (recs Rst.vs l)::L) w'
variable {cmp:Value} {lt:Rst ->Rst ->Bool} {n:Nat}
theorem Cmps.i (hc:Cmps E L s cmp lt n) (hl:l.length=n) (h:Sep E (rowA s 2 (recs Rst.vs l)::L) w) {x y:Rst} {A B:World ->Prop} (k1:lt x y=true ->∀ w',Sep E (rowA s 2 (recs Rst.vs l)::L) w' ->A w') (k2:lt x y=false ->∀ w',Sep E (rowA s 2 (recs Rst.vs l)::L) w' ->B w'):
  abo P cmp #[.agg #[.int .i64 x.at_,.int .u64 x.low],.agg #[.int .i64 y.at_,.int .u64 y.low]] w fun e w'=>∃ r:Int,e= .returned (.int .i64 r)/\bif decide (r<0) then A w' else B w':=by
 refine abo.use (hc l x y w hl h) ?_
 rintro e w' ⟨r,rfl,hr,h'⟩
 refine ⟨r,rfl,?_⟩
 rw [hr]
 cases hb:lt x y with
 | true=>exact k1 hb w' h'
 | false=>exact k2 hb w' h'
theorem Cmps.j (hc:Cmps E L s cmp lt n) (hl:l.length=n) (h:Sep E (rowA s 2 (recs Rst.vs l)::L) w) {x y:Rst} {A B:World ->Prop} (k1:lt x y=true ->∀ w',Sep E (rowA s 2 (recs Rst.vs l)::L) w' ->A w') (k2:lt x y=false ->∀ w',Sep E (rowA s 2 (recs Rst.vs l)::L) w' ->B w'):
  abo P cmp #[.agg #[.int .i64 x.at_,.int .u64 x.low],.agg #[.int .i64 y.at_,.int .u64 y.low]] w fun e w'=>∃ r:Int,e= .returned (.int .i64 r)/\bif (!(decide (r<0))) then B w' else A w':=by
 refine abo.use (hc l x y w hl h) ?_
 rintro e w' ⟨r,rfl,hr,h'⟩
 refine ⟨r,rfl,?_⟩
 rw [hr]
 cases hb:lt x y with
 | true=>exact k1 hb w' h'
 | false=>exact k2 hb w' h'
structure agp (R b:Rst ->Rst ->Prop) (lt:Rst ->Rst ->Bool):Prop where
 ord:Ord R
 ne:∀ x y,b x y ->x≠y
 ask:∀ x y,b x y ->(lt y x=true↔R y x)
variable {R b:Rst ->Rst ->Prop}
theorem agp.no (K:agp R b lt) {x y:Rst} (hb:b x y) (h:lt y x=false):R x y:=
 K.ord.not (Ne.symm (K.ne x y hb)) (fun hr=>by rw [(K.ask x y hb).2 hr] at h;cases h)
theorem getA {A B:List Rst} {k:Nat} :(A++B)[A.length+k]? =B[k]? :=by
 rw [List.getElem?_append_right (by omega)];congr 1;omega
theorem aef {A P B:List Rst} {i k:Nat} {x:Rst} (hi:i<=P.length) (hk:k<=P.length):(A++ins P i x++B)[A.length+k]? =if k<i then P[k]? else if k=i then some x else P[k - 1]? :=by
 have:=acZ P i x
 rw [List.append_assoc,getA,List.getElem?_append_left (by omega),ama P i x hi]
theorem aio {A M B:List Rst} (K:agp R b lt) (hM:M.Pairwise b) (hn:s.n=(A++M++B).length) (hbig:(A++M++B).length<4611686018427387904) (hc:Cmps E L s cmp lt (A++M++B).length)
  (h:Sep E (rowA s 2 (recs Rst.vs (A++M++B))::L) w) {a e:Int} (ha:a=A.length) (he:e=A.length+M.length):
  Calls P abp #[.slice s.p s.n s.c,.int .i64 a,.int .i64 e,cmp] w (Ret fun v w'=>v= .tuple #[]/\∃ M',M'.Perm M/\M'.Pairwise R/\Sep E (rowA s 2 (recs Rst.vs (A++M'++B))::L) w'):=by
 subst ha he
 have hlen:(A++M++B).length=A.length+M.length+B.length:=by simp;omega
 apply af9
 unfold adf
 rw [hlen] at hn hbig hc
 refine ⟨fun i w=>∃ (k:Nat) (S:List Rst),i=A.length+k/\1<=k/\(k<=M.length\/M= [])/\S.Perm (M.take k)/\S.Pairwise R/\Sep E (rowA s 2 (recs Rst.vs (A++S++(M.drop k++B)))::L) w,fun i _=>(A.length+M.length - i).toNat,?_,?_⟩
 ·rw [w64 (by omega) (by omega)]
  refine ⟨1,M.take 1,by omega,Nat.le_refl _,?_,.refl _,?_,?_⟩
  ·cases M with
   | nil=>exact .inr rfl
   | cons x M=>left;simp
  ·cases M with
   | nil=>simp
   | cons x M=>simp
  ·have:A++M.take 1++(M.drop 1++B)=A++M++B:=by
    rw [<- List.append_assoc,List.append_assoc A,List.take_append_drop]
   rw [this];exact h
 rintro _ i w1 ⟨k,S,rfl,hk1,hk2,hS,hSR,h1⟩
 refine bLt (fun hlt=> ?_) (fun hge=>⟨rfl,S,?_,hSR,?_⟩)
 ·have hkM:k<M.length:=by omega
  have hSl:S.length=k:=by rw [hS.length_eq];simp;omega
  have hx:M[k]? =some M[k]:=List.getElem?_eq_getElem hkM
  generalize hxe:M[k]=x at hx
  have hdrop:M.drop k=x::M.drop (k+1):=by rw [<- hxe];exact List.drop_eq_getElem_cons hkM
  have hbx:∀ y∈S,b y x:=by
   intro y hy
   obtain ⟨j,hj,hjy⟩:=afX (hS.mem_iff.1 hy)
   exact ak3 hM hjy hx hj
  refine ⟨fun j w=>∃ m:Nat,j=A.length+m/\m<=k/\(k<=m\/∃ y,S[m]? =some y/\R x y)/\Sep E (rowA s 2 (recs Rst.vs (A++ins S m x++(M.drop (k+1)++B)))::L) w,fun j _=>(j - A.length).toNat,?_,?_⟩
  ·refine ⟨k,rfl,Nat.le_refl _,.inl (Nat.le_refl _),?_⟩
   have e:A++ins S k x++(M.drop (k+1)++B)=A++S++(M.drop k++B):=by
    rw [<- hSl,asV,hSl,hdrop];simp
   rw [e];exact h1
  rintro _ j w2 ⟨m,rfl,hmk,hm2,h2⟩
  have hll:(A++ins S m x++(M.drop (k+1)++B)).length=A.length+M.length+B.length:=by
   have:=acZ S m x
   simp only [List.length_append,this,List.length_drop];omega
  have out:∀ {w3:World},(m=0\/∃ y,S[m - 1]? =some y/\R y x) ->Sep E (rowA s 2 (recs Rst.vs (A++ins S m x++(M.drop (k+1)++B)))::L) w3 ->
    ((∃ (k':Nat) (S:List Rst),(IntKind.i64.wrap (A.length+k+1))=A.length+k'/\1<=k'/\(k'<=M.length\/M= [])/\S.Perm (M.take k')/\S.Pairwise R/\Sep E (rowA s 2 (recs Rst.vs (A++S++(M.drop k'++B)))::L) w3)/\
     (A.length+M.length - IntKind.i64.wrap (A.length+k+1)).toNat<(A.length+M.length - (A.length+k:Int)).toNat):=by
   intro w3 hlast h3
   rw [w64 (by omega) (by omega)]
   refine ⟨⟨k+1,ins S m x,by omega,by omega,.inl (by omega),?_,?_,h3⟩,by omega⟩
   ·refine (ako S m x).trans ?_
    rw [List.take_add_one,hx]
    exact (List.Perm.cons x hS).trans (List.perm_append_comm (l₁:= [x]))
   ·exact aoi K.ord hSR hlast (by rw [hSl];exact hm2)
  refine ⟨fun w=>∃ m' y,m=m'+1/\S[m']? =some y/\R x y/\Sep E (rowA s 2 (recs Rst.vs (A++ins S m x++(M.drop (k+1)++B)))::L) w,?_,?_⟩
  ·refine Dr.i h2 (fun w3 h3=>bGt (fun hgt=> ?_) (fun hle=> ?_))
   ·obtain ⟨m',rfl⟩:∃ m',m=m'+1:=⟨m - 1,by omega⟩
    have hy:S[m']? =some (S[m']'(by omega)):=List.getElem?_eq_getElem (by omega)
    generalize S[m']'(by omega)=y at hy
    have hyS:y∈S:=List.mem_of_getElem? hy
    rw [w64 (by omega) (by omega)]
    refine elL (A.length+(m'+1)) h3 (by rw [hn,hll]) (by omega) (by rw [aef (by omega) (by omega),if_neg (by omega),if_pos rfl]) ?_
    refine elL (A.length+m') h3 (by rw [hn,hll]) (by omega) (by rw [aef (by omega) (by omega),if_pos (by omega)];exact hy) ?_
    refine hc.i hll h3 (fun ht w4 h4=>⟨m',y,rfl,hy,(K.ask y x (hbx y hyS)).1 ht,h4⟩) (fun hf w4 h4=>out (.inr ⟨y,hy,K.no (hbx y hyS) hf⟩) h4)
   ·exact out (.inl (by omega)) h3
  ·rintro _ w3 ⟨m',y,rfl,hy,hr,h3⟩
   have hm':m'<S.length:=(List.getElem?_eq_some_iff.1 hy).1
   refine Dr.i h3 (fun w4 h4=> ?_)
   rw [w64 (n:=A.length+((m'+1:Nat):Int) - 1) (by omega) (by omega)]
   refine elL (A.length+m') h4 (by rw [hn,hll]) (by omega) (by rw [aef (by omega) (by omega),if_pos (by omega)];exact hy) ?_
   refine elL (A.length+(m'+1)) h4 (by rw [hn,hll]) (by omega) (by rw [aef (by omega) (by omega),if_neg (by omega),if_pos rfl]) ?_
   refine elS (A.length+(m'+1)) h4 (by rw [hn,hll]) (by omega) (by omega) (fun w5 h5=> ?_)
   refine elS (A.length+m') h5 (by rw [List.length_set,hn,hll]) (by omega) (by rw [List.length_set];omega) (fun w6 h6=> ?_)
   rw [<- Nat.add_assoc,aph hy] at h6
   exact ⟨⟨m',by omega,by omega,.inr ⟨y,hy,hr⟩,h6⟩,by dsimp only;omega⟩
 ·rcases hk2 with hk2 | hk2
  ·have:k=M.length:=by omega
   rw [this,List.take_length] at hS;exact hS
  ·subst hk2;simpa using hS
 ·have:M.drop k= []:=by
   rcases hk2 with hk2 | hk2
   ·exact List.drop_of_length_le (by omega)
   ·subst hk2;simp
  rw [this,List.nil_append] at h1;exact h1
theorem afy {A U M V B:List Rst} (hUV:U.length=V.length) (hn:s.n=(A++U++M++V++B).length) (hbig:(A++U++M++V++B).length<4611686018427387904)
  (h:Sep E (rowA s 2 (recs Rst.vs (A++U++M++V++B))::L) w) {a e n':Int} (ha:a=A.length) (he:e=A.length+U.length+M.length) (hn':n'=U.length):
  Calls P abf #[.slice s.p s.n s.c,.int .i64 a,.int .i64 e,.int .i64 n',cmp] w (Ret fun v w'=>v= .tuple #[]/\Sep E (rowA s 2 (recs Rst.vs (A++V++M++U++B))::L) w'):=by
 subst ha he hn'
 have hlen:(A++U++M++V++B).length=A.length+U.length+M.length+V.length+B.length:=by simp only [List.length_append]
 apply ahm
 unfold adR
 refine ⟨fun i w=>∃ (k:Nat) (l':List Rst),i=k/\k<=U.length/\afL (A++U++M++V++B) l' A.length (A.length+U.length+M.length) k/\Sep E (rowA s 2 (recs Rst.vs l')::L) w,fun i _=>(U.length - i).toNat,⟨0,_,rfl,Nat.zero_le _,afL.zero _ _ _,h⟩,?_⟩
 rintro _ i w1 ⟨k,l',rfl,hk,hs,h1⟩
 have hll:l'.length=s.n:=by rw [hs.1,hn]
 refine bLt (fun hlt=>Dr.i h1 (fun w2 h2=> ?_)) (fun hge=>⟨rfl,?_⟩)
 ·rw [w64 (n:=(A.length:Int)+U.length+M.length+k) (by omega) (by omega),w64 (n:=(A.length:Int)+k) (by omega) (by omega),w64 (n:=(k:Int)+1) (by omega) (by omega)]
  have hx:l'[A.length+U.length+M.length+k]? =some (l'[A.length+U.length+M.length+k]'(by omega)):=List.getElem?_eq_getElem (by omega)
  have hy:l'[A.length+k]? =some (l'[A.length+k]'(by omega)):=List.getElem?_eq_getElem (by omega)
  generalize l'[A.length+U.length+M.length+k]'(by omega)=x at hx
  generalize l'[A.length+k]'(by omega)=y at hy
  refine elL _ h2 hll.symm (by omega) hx (elL _ h2 hll.symm (by omega) hy ?_)
  refine elS (A.length+k) h2 hll.symm (by omega) (by omega) (fun w3 h3=>elS (A.length+U.length+M.length+k) h3 (by rw [List.length_set];exact hll.symm) (by omega) (by rw [List.length_set];omega) (fun w4 h4=> ?_))
  exact ⟨⟨k+1,_,by omega,by omega,hs.step (n:=U.length) (by omega) (by omega) hx hy,h4⟩,by dsimp only;omega⟩
 ·have:k=U.length:=by omega
  subst this
  rw [hs.eq hUV] at h1;exact h1
theorem auX {A X Y B:List Rst} (hX:1<=X.length) (hY:1<=Y.length) (hn:s.n=(A++X++Y++B).length) (hbig:(A++X++Y++B).length<4611686018427387904)
  (h:Sep E (rowA s 2 (recs Rst.vs (A++X++Y++B))::L) w) {a m e:Int} (ha:a=A.length) (hm:m=A.length+X.length) (he:e=A.length+X.length+Y.length):
  Calls P acH #[.slice s.p s.n s.c,.int .i64 a,.int .i64 m,.int .i64 e,cmp] w (Ret fun v w'=>v= .tuple #[]/\Sep E (rowA s 2 (recs Rst.vs (A++Y++X++B))::L) w'):=by
 subst ha hm he
 have hlen:(A++X++Y++B).length=A.length+X.length+Y.length+B.length:=by simp only [List.length_append]
 apply aij
 unfold aez
 rw [w64 (n:=(A.length:Int)+X.length - A.length) (by omega) (by omega),w64 (n:=(A.length:Int)+X.length+Y.length - (A.length+X.length)) (by omega) (by omega)]
 refine ⟨fun i j w=>∃ A' X' Y' B':List Rst,i=X'.length/\j=Y'.length/\1<=X'.length/\1<=Y'.length/\A'.length+X'.length=A.length+X.length/\A'++Y'++X'++B'=A++Y++X++B/\Sep E (rowA s 2 (recs Rst.vs (A'++X'++Y'++B'))::L) w,
  fun i j _=>(i+j).toNat,⟨A,X,Y,B,by omega,by omega,hX,hY,rfl,rfl,h⟩,?_⟩
 rintro _ i j w1 ⟨A',X',Y',B',rfl,rfl,hX',hY',hm',htar,h1⟩
 have hl0:A'.length+Y'.length+X'.length+B'.length=A.length+X.length+Y.length+B.length:=by
  have:=congrArg List.length htar
  simp only [List.length_append] at this;omega
 have hn1:s.n=A'.length+Y'.length+X'.length+B'.length:=by omega
 rw [w64 (n:=(A.length:Int)+X.length - X'.length) (by omega) (by omega)]
 refine bNe (fun hne=>bGt (fun hgt=> ?_) (fun hle=> ?_)) (fun heq=> ?_)
 ·
  have e1:A'++X'++Y'++B'=A'++X'.take Y'.length++X'.drop Y'.length++Y'++B':=by rw [List.append_assoc A' (X'.take _),List.take_append_drop]
  have l1:(X'.take Y'.length).length=Y'.length:=by simp;omega
  have l2:(X'.drop Y'.length).length=X'.length - Y'.length:=by simp
  rw [e1] at h1
  refine use (afy (cmp:=cmp) l1 (by simp only [List.length_append,l1,l2];omega) (by simp only [List.length_append,l1,l2];omega) h1 (by omega) (by omega) (by omega)) ?_
  rintro _ w2 ⟨rfl,h2⟩
  rw [w64 (by omega) (by omega)]
  refine ⟨rfl,⟨A'++Y',X'.drop Y'.length,X'.take Y'.length,B',by omega,by omega,by omega,by omega,by simp only [List.length_append];omega,?_,h2⟩,by dsimp only;omega⟩
  rw [<- htar,List.append_assoc (A'++Y'),List.take_append_drop]
 ·have e1:A'++X'++Y'++B'=A'++X'++Y'.take (Y'.length - X'.length)++Y'.drop (Y'.length - X'.length)++B':=by rw [List.append_assoc (A'++X') (Y'.take _),List.take_append_drop]
  have l1:(Y'.take (Y'.length - X'.length)).length=Y'.length - X'.length:=by simp
  have l2:(Y'.drop (Y'.length - X'.length)).length=X'.length:=by simp;omega
  rw [e1] at h1
  rw [w64 (n:=(A.length:Int)+X.length+Y'.length) (by omega) (by omega),w64 (n:=(A.length:Int)+X.length+Y'.length - X'.length) (by omega) (by omega)]
  refine use (afy (cmp:=cmp) l2.symm (by simp only [List.length_append,l1,l2];omega) (by simp only [List.length_append,l1,l2];omega) h1 (by omega) (by omega) (by omega)) ?_
  rintro _ w2 ⟨rfl,h2⟩
  rw [w64 (by omega) (by omega)]
  refine ⟨rfl,⟨A',Y'.drop (Y'.length - X'.length),Y'.take (Y'.length - X'.length),X'++B',by omega,by omega,by omega,by omega,by omega,?_,?_⟩,by dsimp only;omega⟩
  ·rw [<- htar,List.append_assoc A' (Y'.take _),List.take_append_drop];simp
  ·have:A'++Y'.drop (Y'.length - X'.length)++Y'.take (Y'.length - X'.length)++X'++B'=A'++Y'.drop (Y'.length - X'.length)++Y'.take (Y'.length - X'.length)++(X'++B'):=by simp
   rw [<- this];exact h2
 ·have heq':X'.length=Y'.length:=by omega
  have e1:A'++X'++Y'++B'=A'++X'++ []++Y'++B':=by simp
  rw [e1] at h1
  refine use (afy (cmp:=cmp) heq' (by simp only [List.length_append,List.length_nil];omega) (by simp only [List.length_append,List.length_nil];omega) h1 (by omega) (by simp only [List.length_nil];omega) (by omega)) ?_
  rintro _ w2 ⟨rfl,h2⟩
  refine ⟨rfl,rfl,?_⟩
  rw [<- htar]
  have:A'++Y'++ []++X'++B'=A'++Y'++X'++B':=by simp
  rw [this] at h2;exact h2
end
end Go.Mp.Sh
end
section
set_option maxRecDepth 100000
namespace Go.Mp.Sh
open Go Go.Vc Go.Sp Go.Stab Go.Mp
section
variable {E:Env} {L:List Asn} {w:World} {s:Sl} {cmp:Value} {lt:Rst ->Rst ->Bool} {n:Nat} {R b:Rst ->Rst ->Prop}
theorem getX {A X Y B:List Rst} {k:Nat} (hk:k<X.length):(A++X++Y++B)[A.length+k]? =X[k]? :=by
 rw [List.append_assoc,List.append_assoc,getA,List.getElem?_append_left hk]
theorem getY {A X Y B:List Rst} {k:Nat} (hk:k<Y.length):(A++X++Y++B)[A.length+X.length+k]? =Y[k]? :=by
 have:A.length+X.length+k=(A++X).length+k:=by simp
 rw [this,List.append_assoc,getA,List.getElem?_append_left hk]
theorem ajd (K:agp R b lt) (hbig:n<1152921504606846976) (hn:s.n=n) (hc:Cmps E L s cmp lt n):∀ (N:Nat) {A X Y B:List Rst} {w:World},X.length+Y.length<=N ->1<=X.length ->1<=Y.length ->
  X.Pairwise R ->Y.Pairwise R ->(∀ x∈X,∀ y∈Y,b x y) ->(A++X++Y++B).length=n ->Sep E (rowA s 2 (recs Rst.vs (A++X++Y++B))::L) w ->∀ {a m e:Int},a=A.length ->m=A.length+X.length ->e=A.length+X.length+Y.length ->
  Calls P aa2 #[.slice s.p s.n s.c,.int .i64 a,.int .i64 m,.int .i64 e,cmp] w (Ret fun v w'=>v= .tuple #[]/\∃ Z,Z.Perm (X++Y)/\Z.Pairwise R/\Sep E (rowA s 2 (recs Rst.vs (A++Z++B))::L) w'):=by
 intro N
 induction N with
 | zero=>intro A X Y B w h1 h2;omega
 | succ N ih=>
 intro A X Y B w hN hX1 hY1 hX hY hb hll h a m e ha hm he
 subst ha hm he
 have hlen:(A++X++Y++B).length=A.length+X.length+Y.length+B.length:=by simp only [List.length_append]
 rw [hlen] at hll
 have hl1:s.n=(A++X++Y++B).length:=by omega
 apply ahE
 unfold aej
 rw [w64 (n:=(A.length:Int)+X.length - A.length) (by omega) (by omega),w64 (n:=(A.length:Int)+X.length+Y.length - (A.length+X.length)) (by omega) (by omega)]
 refine bEq (fun h1=> ?_) (fun hne1=>bEq (fun h2=> ?_) (fun hne2=> ?_))
 ·
  obtain ⟨x,rfl⟩:∃ x,X= [x]:=by
   match X,hX1,h1 with
   | [x],_,_=>exact ⟨x,rfl⟩
   | _::_::_,_,h=>simp at h;omega
  simp only [List.length_singleton] at*
  have hby:∀ y∈Y,b x y:=fun y hy=>hb x (by simp) y hy
  refine ⟨fun i j w=>∃ p q:Nat,i=A.length+1+p/\j=A.length+1+q/\p<=q/\q<=Y.length/\(p=0\/∃ y,Y[p - 1]? =some y/\R y x)/\(Y.length<=q\/∃ y,Y[q]? =some y/\R x y)/\Sep E (rowA s 2 (recs Rst.vs (A++ [x]++Y++B))::L) w,
   fun i j _=>(j - i).toNat,⟨0,Y.length,by omega,by omega,by omega,by omega,.inl rfl,.inl (Nat.le_refl _),h⟩,?_⟩
  rintro _ i j w1 ⟨p,q,rfl,rfl,hpq,hq,hp1,hq1,h1⟩
  refine bLt (fun hlt=>⟨by decide,Dr.i h1 (fun w2 h2=> ?_)⟩) (fun hge=> ?_)
  ·have hh:((A.length:Int)+1+p+(A.length+1+q)) / 2=((A.length+1+(p+q) / 2:Nat):Int):=by omega
   rw [half (by omega) (by omega),hh]
   have hc':(p+q) / 2<Y.length:=by omega
   have hy:Y[(p+q) / 2]? =some (Y[(p+q) / 2]'hc'):=List.getElem?_eq_getElem hc'
   generalize Y[(p+q) / 2]'hc'=y at hy
   have hyY:y∈Y:=List.mem_of_getElem? hy
   refine elL (A.length+1+(p+q) / 2) h2 hl1 rfl ((getY (A:=A) (X:= [x]) (B:=B) hc').trans hy) (elL (A.length+0) h2 hl1 (by omega) (by rw [getX (by simp)];rfl) ?_)
   refine hc.i (by omega) h2 (fun ht w3 h3=> ?_) (fun hf w3 h3=> ?_)
   ·rw [w64 (by omega) (by omega)]
    exact ⟨⟨(p+q) / 2+1,q,by omega,rfl,by omega,hq,.inr ⟨y,by simpa using hy,(K.ask x y (hby y hyY)).1 ht⟩,hq1,h3⟩,by dsimp only;omega⟩
   ·exact ⟨⟨p,(p+q) / 2,rfl,by omega,by omega,by omega,hp1,.inr ⟨y,hy,K.no (hby y hyY) hf⟩,h3⟩,by dsimp only;omega⟩
  ·have hpe:p=q:=by omega
   subst hpe
   rw [w64 (n:=(A.length:Int)+1+p - 1) (by omega) (by omega)]
   have e0:A++ [x]++Y++B=A++ins Y 0 x++B:=by simp [ins]
   rw [e0] at h1
   refine ⟨fun k w=>∃ t:Nat,k=A.length+t/\t<=p/\Sep E (rowA s 2 (recs Rst.vs (A++ins Y t x++B))::L) w,fun k _=>(A.length+p - k).toNat,⟨0,by omega,by omega,h1⟩,?_⟩
   rintro _ k w2 ⟨t,rfl,ht,h2⟩
   have hl2:s.n=(A++ins Y t x++B).length:=by
    have:=acZ Y t x
    simp only [List.length_append,this];omega
   refine bLt (fun hlt=>Dr.i h2 (fun w3 h3=> ?_)) (fun hge=> ?_)
   ·rw [w64 (n:=(A.length:Int)+t+1) (by omega) (by omega)]
    have hy:Y[t]? =some (Y[t]'(by omega)):=List.getElem?_eq_getElem (by omega)
    generalize Y[t]'(by omega)=y at hy
    refine elL (A.length+(t+1)) h3 hl2 (by omega) (by rw [aef (by omega) (by omega),if_neg (by omega),if_neg (by omega)];exact hy) ?_
    refine elL (A.length+t) h3 hl2 (by omega) (by rw [aef (by omega) (by omega),if_neg (by omega),if_pos rfl]) ?_
    refine elS (A.length+t) h3 hl2 (by omega) (by omega) (fun w4 h4=>elS (A.length+t+1) h4 (by rw [List.length_set];exact hl2) (by omega) (by rw [List.length_set];omega) (fun w5 h5=> ?_))
    rw [aFy hy] at h5
    exact ⟨⟨t+1,by omega,by omega,h5⟩,by dsimp only;omega⟩
   ·have:t=p:=by omega
    subst this
    exact ⟨trivial,ins Y t x,ako Y t x,aoi K.ord hY hp1 hq1,h2⟩
 ·
  obtain ⟨y,rfl⟩:∃ y,Y= [y]:=by
   match Y,hY1,h2 with
   | [y],_,_=>exact ⟨y,rfl⟩
   | _::_::_,_,h=>simp at h;omega
  simp only [List.length_singleton] at*
  have hbx:∀ x∈X,b x y:=fun x hx=>hb x hx y (by simp)
  refine ⟨fun i j w=>∃ p q:Nat,i=A.length+p/\j=A.length+q/\p<=q/\q<=X.length/\(p=0\/∃ x,X[p - 1]? =some x/\R x y)/\(X.length<=q\/∃ x,X[q]? =some x/\R y x)/\Sep E (rowA s 2 (recs Rst.vs (A++X++ [y]++B))::L) w,
   fun i j _=>(j - i).toNat,⟨0,X.length,by omega,by omega,by omega,by omega,.inl rfl,.inl (Nat.le_refl _),h⟩,?_⟩
  rintro _ i j w1 ⟨p,q,rfl,rfl,hpq,hq,hp1,hq1,h1⟩
  refine bLt (fun hlt=>⟨by decide,Dr.i h1 (fun w2 h2=> ?_)⟩) (fun hge=> ?_)
  ·have hh:((A.length:Int)+p+(A.length+q)) / 2=((A.length+(p+q) / 2:Nat):Int):=by omega
   rw [half (by omega) (by omega),hh]
   have hc':(p+q) / 2<X.length:=by omega
   have hx:X[(p+q) / 2]? =some (X[(p+q) / 2]'hc'):=List.getElem?_eq_getElem hc'
   generalize X[(p+q) / 2]'hc'=x at hx
   have hxX:x∈X:=List.mem_of_getElem? hx
   refine elL (A.length+X.length+0) h2 hl1 (by omega) (by rw [getY (by simp)];rfl) (elL (A.length+(p+q) / 2) h2 hl1 rfl (by rw [getX hc'];exact hx) ?_)
   refine hc.j (by omega) h2 (fun ht w3 h3=> ?_) (fun hf w3 h3=> ?_)
   ·exact ⟨⟨p,(p+q) / 2,rfl,by omega,by omega,by omega,hp1,.inr ⟨x,hx,(K.ask x y (hbx x hxX)).1 ht⟩,h3⟩,by dsimp only;omega⟩
   ·rw [w64 (by omega) (by omega)]
    exact ⟨⟨(p+q) / 2+1,q,by omega,rfl,by omega,hq,.inr ⟨x,by simpa using hx,K.no (hbx x hxX) hf⟩,hq1,h3⟩,by dsimp only;omega⟩
  ·have hpe:p=q:=by omega
   subst hpe
   have e0:A++X++ [y]++B=A++ins X X.length y++B:=by rw [asV];simp
   rw [e0] at h1
   refine ⟨fun k w=>∃ t:Nat,k=A.length+t/\p<=t/\t<=X.length/\Sep E (rowA s 2 (recs Rst.vs (A++ins X t y++B))::L) w,fun k _=>(k - A.length).toNat,⟨X.length,rfl,by omega,by omega,h1⟩,?_⟩
   rintro _ k w2 ⟨t,rfl,ht,htX,h2⟩
   have hl2:s.n=(A++ins X t y++B).length:=by
    have:=acZ X t y
    simp only [List.length_append,this];omega
   refine bGt (fun hlt=>Dr.i h2 (fun w3 h3=> ?_)) (fun hge=> ?_)
   ·obtain ⟨t',rfl⟩:∃ t',t=t'+1:=⟨t - 1,by omega⟩
    rw [w64 (n:=(A.length:Int)+((t'+1:Nat):Int) - 1) (by omega) (by omega)]
    have hx:X[t']? =some (X[t']'(by omega)):=List.getElem?_eq_getElem (by omega)
    generalize X[t']'(by omega)=x at hx
    refine elL (A.length+t') h3 hl2 (by omega) (by rw [aef (by omega) (by omega),if_pos (by omega)];exact hx) ?_
    refine elL (A.length+(t'+1)) h3 hl2 (by omega) (by rw [aef (by omega) (by omega),if_neg (by omega),if_pos rfl]) ?_
    refine elS (A.length+t'+1) h3 hl2 (by omega) (by omega) (fun w4 h4=>elS (A.length+t') h4 (by rw [List.length_set];exact hl2) (by omega) (by rw [List.length_set];omega) (fun w5 h5=> ?_))
    rw [aph hx] at h5
    exact ⟨⟨t',by omega,by omega,by omega,h5⟩,by dsimp only;omega⟩
   ·have:t=p:=by omega
    subst this
    exact ⟨trivial,ins X t y,(ako X t y).trans (List.perm_append_comm (l₁:= [y]) (l₂:=X)),aoi K.ord hX hp1 hq1,h2⟩
 ·
  refine ⟨by decide,?_⟩
  obtain ⟨d,hd⟩:∃ d,d=(X.length+Y.length) / 2:=⟨_,rfl⟩
  have hmid:((A.length:Int)+(A.length+X.length+Y.length)) / 2=((A.length+d:Nat):Int):=by omega
  rw [half (by omega) (by omega),hmid]
  rw [w64 (n:=((A.length+d:Nat):Int)+(A.length+X.length)) (by omega) (by omega)]
  rw [w64 (n:=((A.length+d:Nat):Int)+(A.length+X.length) - (A.length+X.length+Y.length)) (by omega) (by omega)]
  rw [w64 (n:=((A.length+d:Nat):Int)+(A.length+X.length) - 1) (by omega) (by omega)]
  obtain ⟨lo,hlo⟩:∃ lo,lo=if X.length>d then d - Y.length else 0:=⟨_,rfl⟩
  obtain ⟨hi,hhi⟩:∃ hi,hi=if X.length>d then d else X.length:=⟨_,rfl⟩
  have hlohi:lo<=hi/\hi<=d/\hi<=X.length/\d<=lo+Y.length:=by
   rw [hlo,hhi];split<;>omega
  refine ⟨fun i j w=>i=A.length+lo/\j=A.length+hi/\Sep E (rowA s 2 (recs Rst.vs (A++X++Y++B))::L) w,?_,?_⟩
  ·refine bGt (fun hgt=> ?_) (fun hle=> ?_)
   ·refine ⟨?_,?_,h⟩
    ·rw [hlo,if_pos (by omega)];omega
    ·rw [hhi,if_pos (by omega)];omega
   ·refine ⟨?_,?_,h⟩
    ·rw [hlo,if_neg (by omega)];omega
    ·rw [hhi,if_neg (by omega)]
  rintro _ i0 j0 w1 ⟨rfl,rfl,h1⟩
  refine ⟨fun i j w=>∃ p q:Nat,i=A.length+p/\j=A.length+q/\lo<=p/\p<=q/\q<=hi/\(p=lo\/∃ x y,X[p - 1]? =some x/\Y[d - p]? =some y/\R x y)/\(q=hi\/∃ x y,Y[d - q - 1]? =some y/\X[q]? =some x/\R y x)/\
    Sep E (rowA s 2 (recs Rst.vs (A++X++Y++B))::L) w,fun i j _=>(j - i).toNat,⟨lo,hi,rfl,rfl,Nat.le_refl _,hlohi.1,Nat.le_refl _,.inl rfl,.inl rfl,h1⟩,?_⟩
  rintro _ i j w2 ⟨p,q,rfl,rfl,hp0,hpq,hqh,hp1,hq1,h2⟩
  refine bLt (fun hlt=>⟨by decide,Dr.i h2 (fun w3 h3=> ?_)⟩) (fun hge=> ?_)
  ·have hh:((A.length:Int)+p+(A.length+q)) / 2=((A.length+(p+q) / 2:Nat):Int):=by omega
   rw [half (by omega) (by omega),hh]
   rw [w64 (n:=((A.length+d:Nat):Int)+(A.length+X.length) - 1 - ((A.length+(p+q) / 2:Nat):Int)) (by omega) (by omega)]
   obtain ⟨c,hcc⟩:∃ c,c=(p+q) / 2:=⟨_,rfl⟩
   rw [<- hcc]
   have hcX:c<X.length:=by omega
   have hcY:d - 1 - c<Y.length:=by omega
   have hx:X[c]? =some (X[c]'hcX):=List.getElem?_eq_getElem hcX
   have hy:Y[d - 1 - c]? =some (Y[d - 1 - c]'hcY):=List.getElem?_eq_getElem hcY
   generalize X[c]'hcX=x at hx
   generalize Y[d - 1 - c]'hcY=y at hy
   have hbxy:=hb x (List.mem_of_getElem? hx) y (List.mem_of_getElem? hy)
   refine elL (A.length+X.length+(d - 1 - c)) h3 hl1 (by omega) (by rw [getY hcY];exact hy) (elL (A.length+c) h3 hl1 (by omega) (by rw [getX hcX];exact hx) ?_)
   refine hc.j (by omega) h3 (fun ht w4 h4=> ?_) (fun hf w4 h4=> ?_)
   ·refine ⟨⟨p,c,rfl,by omega,hp0,by omega,by omega,hp1,.inr ⟨x,y,?_,hx,(K.ask x y hbxy).1 ht⟩,h4⟩,by dsimp only;omega⟩
    rw [show d - c - 1=d - 1 - c by omega];exact hy
   ·rw [w64 (by omega) (by omega)]
    refine ⟨⟨c+1,q,by omega,rfl,by omega,by omega,hqh,.inr ⟨x,y,by simpa using hx,?_,K.no hbxy hf⟩,hq1,h4⟩,by dsimp only;omega⟩
    rw [show d - (c+1)=d - 1 - c by omega];exact hy
  ·have hpe:p=q:=by omega
   subst hpe
   obtain ⟨t,ht⟩:∃ t,t=d - p:=⟨_,rfl⟩
   have hcut:=awU K.ord (X:=X) (Y:=Y) (i:=p) (j:=t) hX hY (by
    rcases hp1 with e | ⟨x,y,e1,e2,e3⟩
    ·by_cases hg:X.length>d
     ·rw [if_pos hg] at hlo;right;left;omega
     ·rw [if_neg hg] at hlo;left;omega
    ·exact .inr (.inr ⟨x,y,e1,by rw [ht];exact e2,e3⟩)) (by
    rcases hq1 with e | ⟨x,y,e1,e2,e3⟩
    ·by_cases hg:X.length>d
     ·rw [if_pos hg] at hhi;left;omega
     ·rw [if_neg hg] at hhi;right;left;omega
    ·exact .inr (.inr ⟨x,y,by rw [ht];exact e1,e2,e3⟩))
   have ltp:(X.take p).length=p:=by simp;omega
   have ltt:(Y.take t).length=t:=by simp;omega
   have ldp:(X.drop p).length=X.length - p:=by simp
   have ldt:(Y.drop t).length=Y.length - t:=by simp
   have hend:IntKind.i64.wrap (((A.length+d:Nat):Int)+(A.length+X.length) - (A.length+p))=((A.length+X.length+t:Nat):Int):=by
    rw [w64 (by omega) (by omega)];omega
   rw [hend]
   refine ⟨fun w=>Sep E (rowA s 2 (recs Rst.vs (A++(X.take p++Y.take t)++(X.drop p++Y.drop t)++B))::L) w,?_,?_⟩
   ·refine ⟨fun c w=>c=decide (p<X.length/\0<t)/\Sep E (rowA s 2 (recs Rst.vs (A++X++Y++B))::L) w,?_,?_⟩
    ·refine bLt (fun g=>⟨?_,h2⟩) (fun g=>⟨?_,h2⟩)
     ·have:(decide ((A.length:Int)+X.length<((A.length+X.length+t:Nat):Int)))=decide (0<t):=by
       by_cases h0:0<t
       ·rw [decide_eq_true h0,decide_eq_true (by omega)]
       ·rw [decide_eq_false h0,decide_eq_false (by omega)]
      rw [this]
      by_cases h0:0<t
      ·rw [decide_eq_true h0,decide_eq_true ⟨by omega,h0⟩]
      ·rw [decide_eq_false h0,decide_eq_false (fun hh=>h0 hh.2)]
     ·exact (decide_eq_false (fun hh=>by omega)).symm
    rintro _ c w3 ⟨rfl,h3⟩
    refine bifI (fun g=> ?_) (fun g=> ?_)
    ·have g:=of_decide_eq_true g
     have e1:A++X++Y++B=(A++X.take p)++X.drop p++Y.take t++(Y.drop t++B):=by
      simp only [List.append_assoc]
      rw [<- List.append_assoc (Y.take t),List.take_append_drop,<- List.append_assoc (X.take p),List.take_append_drop]
     rw [e1] at h3
     refine use (auX (cmp:=cmp) (by omega) (by omega) (by rw [<- e1];exact hl1) (by rw [<- e1];omega) h3 (by simp only [List.length_append];omega) (by simp only [List.length_append];omega) (by simp only [List.length_append];omega)) ?_
     rintro _ w4 ⟨rfl,h4⟩
     refine ⟨rfl,?_⟩
     have e2:(A++X.take p)++Y.take t++X.drop p++(Y.drop t++B)=A++(X.take p++Y.take t)++(X.drop p++Y.drop t)++B:=by simp
     rw [<- e2];exact h4
    ·have g:=of_decide_eq_false g
     have e2:A++(X.take p++Y.take t)++(X.drop p++Y.drop t)++B=A++X++Y++B:=by
      by_cases h0:p<X.length
      ·have:t=0:=by omega
       subst this
       simp only [List.take_zero,List.append_nil,List.drop_zero,List.append_assoc]
       rw [<- List.append_assoc (X.take p),List.take_append_drop]
      ·have e3:X.drop p= []:=List.drop_of_length_le (by omega)
       have e4:X.take p=X:=List.take_of_length_le (by omega)
       rw [e3,e4,List.nil_append]
       simp only [List.append_assoc]
       rw [<- List.append_assoc (Y.take t),List.take_append_drop]
     rw [e2];exact h3
   rintro _ w3 h3
   have hXt:(X.take p).Pairwise R:=hX.sublist (List.take_sublist _ _)
   have hXd:(X.drop p).Pairwise R:=hX.sublist (List.drop_sublist _ _)
   have hYt:(Y.take t).Pairwise R:=hY.sublist (List.take_sublist _ _)
   have hYd:(Y.drop t).Pairwise R:=hY.sublist (List.drop_sublist _ _)
   refine ⟨fun w=>∃ Z1,Z1.Perm (X.take p++Y.take t)/\Z1.Pairwise R/\Sep E (rowA s 2 (recs Rst.vs (A++Z1++(X.drop p++Y.drop t)++B))::L) w,?_,?_⟩
   ·refine ⟨fun c w=>c=decide (0<p/\0<t)/\Sep E (rowA s 2 (recs Rst.vs (A++(X.take p++Y.take t)++(X.drop p++Y.drop t)++B))::L) w,?_,?_⟩
    ·refine bLt (fun g=>⟨?_,h3⟩) (fun g=>⟨?_,h3⟩)
     ·by_cases h0:0<t
      ·rw [decide_eq_true (by omega),decide_eq_true ⟨by omega,h0⟩]
      ·rw [decide_eq_false (by omega),decide_eq_false (fun hh=>h0 hh.2)]
     ·exact (decide_eq_false (fun hh=>by omega)).symm
    rintro _ c w4 ⟨rfl,h4⟩
    refine bifI (fun g=> ?_) (fun g=> ?_)
    ·have g:=of_decide_eq_true g
     have e1:A++(X.take p++Y.take t)++(X.drop p++Y.drop t)++B=A++X.take p++Y.take t++((X.drop p++Y.drop t)++B):=by simp
     rw [e1] at h4
     refine use (ih (by omega) (by omega) (by omega) hXt hYt (fun x hx y hy=>hb x (List.mem_of_mem_take hx) y (List.mem_of_mem_take hy)) (by simp only [List.length_append];omega) h4 rfl (by omega) (by omega)) ?_
     rintro _ w5 ⟨rfl,Z1,hZ1,hZ2,h5⟩
     refine ⟨rfl,Z1,hZ1,hZ2,?_⟩
     rw [List.append_assoc (A++Z1)];exact h5
    ·have g:=of_decide_eq_false g
     refine ⟨_,.refl _,?_,h4⟩
     by_cases h0:0<p
     ·have:t=0:=by omega
      subst this
      simpa using hXt
     ·have:p=0:=by omega
      subst this
      simpa using hYt
   rintro _ w4 ⟨Z1,hZ1,hZ1R,h4⟩
   have lz1:Z1.length=d:=by rw [hZ1.length_eq,List.length_append,ltp,ltt];omega
   refine ⟨fun c w=>c=decide (p<X.length/\t<Y.length)/\Sep E (rowA s 2 (recs Rst.vs (A++Z1++(X.drop p++Y.drop t)++B))::L) w,?_,?_⟩
   ·refine bLt (fun g=>⟨?_,h4⟩) (fun g=>⟨?_,h4⟩)
    ·by_cases h0:t<Y.length
     ·rw [decide_eq_true (by omega),decide_eq_true ⟨by omega,h0⟩]
     ·rw [decide_eq_false (by omega),decide_eq_false (fun hh=>h0 hh.2)]
    ·exact (decide_eq_false (fun hh=>by omega)).symm
   rintro _ c w5 ⟨rfl,h5⟩
   refine bifI (fun g=> ?_) (fun g=> ?_)
   ·have g:=of_decide_eq_true g
    have e1:A++Z1++(X.drop p++Y.drop t)++B=(A++Z1)++X.drop p++Y.drop t++B:=by simp
    rw [e1] at h5
    refine use (ih (by omega) (by omega) (by omega) hXd hYd (fun x hx y hy=>hb x (List.mem_of_mem_drop hx) y (List.mem_of_mem_drop hy)) (by simp only [List.length_append];omega) h5 (by simp only [List.length_append];omega) (by simp only [List.length_append];omega) (by simp only [List.length_append];omega)) ?_
    rintro _ w6 ⟨rfl,Z2,hZ2,hZ2R,h6⟩
    have:=halves hZ1 hZ2 hZ1R hZ2R hcut
    refine ⟨rfl,rfl,Z1++Z2,this.1,this.2,?_⟩
    rw [<- List.append_assoc A];exact h6
   ·have g:=of_decide_eq_false g
    have hz2:(X.drop p++Y.drop t).Pairwise R:=by
     by_cases h0:p<X.length
     ·have:Y.drop t= []:=List.drop_of_length_le (by omega)
      rw [this,List.append_nil];exact hXd
     ·have:X.drop p= []:=List.drop_of_length_le (by omega)
      rw [this,List.nil_append];exact hYd
    have:=halves hZ1 (.refl _) hZ1R hz2 hcut
    refine ⟨rfl,Z1++(X.drop p++Y.drop t),this.1,this.2,?_⟩
    rw [<- List.append_assoc A];exact h5
end
end Go.Mp.Sh
end
section
set_option maxRecDepth 100000
namespace Go.Mp.Sh
open Go Go.Vc Go.Sp Go.Stab Go.Mp
section
variable {E:Env} {L:List Asn} {w:World} {s:Sl} {cmp:Value} {lt:Rst ->Rst ->Bool} {R b:Rst ->Rst ->Prop}
def Crs (b:Rst ->Rst ->Prop) (X Y:List Rst):Prop:=∀ x∈X,∀ y∈Y,b x y
theorem Crs.merge {Ps Qs:List (List Rst)} {X Y Z:List Rst} (h:(Ps++X::Y::Qs).Pairwise (Crs b)) (hZ:Z.Perm (X++Y)):(Ps++Z::Qs).Pairwise (Crs b):=by
 have hm:∀ z,z∈Z ->z∈X\/z∈Y:=fun z hz=>List.mem_append.1 (hZ.mem_iff.1 hz)
 rw [List.pairwise_append,List.pairwise_cons,List.pairwise_cons] at h
 rw [List.pairwise_append,List.pairwise_cons]
 obtain ⟨h1,⟨h2,h3,h4⟩,h5⟩:=h
 refine ⟨h1,⟨fun Q hQ z hz y hy=> ?_,h4⟩,fun P' hP Q hQ=> ?_⟩
 ·rcases hm z hz with hz | hz
  ·exact h2 Q (by simp [hQ]) z hz y hy
  ·exact h3 Q hQ z hz y hy
 ·rcases List.mem_cons.1 hQ with rfl | hQ
  ·intro x hx z hz
   rcases hm z hz with hz | hz
   ·exact h5 P' hP X (by simp) x hx z hz
   ·exact h5 P' hP Y (by simp) x hx z hz
  ·exact h5 P' hP Q (by simp [hQ])
theorem Crs.perm {Ps Qs:List (List Rst)} {X Z:List Rst} (h:(Ps++X::Qs).Pairwise (Crs b)) (hZ:Z.Perm X):(Ps++Z::Qs).Pairwise (Crs b):=by
 have hm:∀ z,z∈Z ->z∈X:=fun z hz=>hZ.mem_iff.1 hz
 rw [List.pairwise_append,List.pairwise_cons] at h ⊢
 obtain ⟨h1,⟨h2,h3⟩,h4⟩:=h
 refine ⟨h1,⟨fun Q hQ z hz y hy=>h2 Q hQ z (hm z hz) y hy,h3⟩,fun P' hP Q hQ=> ?_⟩
 rcases List.mem_cons.1 hQ with rfl | hQ
 ·intro x hx z hz;exact h4 P' hP X (by simp) x hx z (hm z hz)
 ·exact h4 P' hP Q (by simp [hQ])
theorem Crs.split {Ps:List (List Rst)} {M1 M2:List Rst} (h:(Ps++ [M1++M2]).Pairwise (Crs b)) (hM:(M1++M2).Pairwise b):(Ps++ [M1,M2]).Pairwise (Crs b):=by
 rw [List.pairwise_append] at h hM ⊢
 obtain ⟨h1,_,h3⟩:=h
 refine ⟨h1,by simpa [Crs] using hM.2.2,fun P' hP Q hQ x hx y hy=> ?_⟩
 have:=h3 P' hP (M1++M2) (by simp) x hx y
 simp only [List.mem_cons,List.not_mem_nil,or_false] at hQ
 rcases hQ with rfl | rfl
 ·exact this (by simp [hy])
 ·exact this (by simp [hy])
def Blks (R:Rst ->Rst ->Prop) (bs:Nat) (Fs:List (List Rst)):Prop:=∀ F∈Fs,F.length=bs/\F.Pairwise R
theorem Blks.length {bs:Nat} :∀ {Fs:List (List Rst)},Blks R bs Fs ->Fs.flatten.length=bs*Fs.length
 | [],_=>by simp
 | F::Fs,h=>by
  have h1:=(h F (by simp)).1
  have h2:Fs.flatten.length=bs*Fs.length:=Blks.length (fun G hG=>h G (by simp [hG]))
  rw [List.flatten_cons,List.length_append,h1,h2,List.length_cons,Nat.mul_add,Nat.mul_one,Nat.add_comm]
theorem Blks.snoc {bs:Nat} {Fs:List (List Rst)} {F:List Rst} (h:Blks R bs Fs) (h1:F.length=bs) (h2:F.Pairwise R):Blks R bs (Fs++ [F]):=by
 intro G hG
 rcases List.mem_append.1 hG with hG | hG
 ·exact h G hG
 ·rw [List.mem_singleton.1 hG];exact ⟨h1,h2⟩
theorem auZ {l:List Rst} (K:agp R b lt) (hM:l.Pairwise b) (hn:s.n=l.length) (hbig:l.length<288230376151711744) (hc:Cmps E L s cmp lt l.length) (h:Sep E (rowA s 2 (recs Rst.vs l)::L) w):
  Calls P acI #[.slice s.p s.n s.c,.int .i64 (s.n:Nat),cmp] w (Ret fun v w'=>v= .tuple #[]/\∃ l',l'.Perm l/\l'.Pairwise R/\Sep E (rowA s 2 (recs Rst.vs l')::L) w'):=by
 apply aik
 unfold aeA
 rw [hn]
 refine ⟨fun a e w=>∃ Fs M,a=(20*Fs.length:Nat)/\e=(20*Fs.length+20:Nat)/\Blks R 20 Fs/\M.Pairwise b/\(Fs++ [M]).Pairwise (Crs b)/\(Fs.flatten++M).Perm l/\Sep E (rowA s 2 (recs Rst.vs (Fs.flatten++M))::L) w,fun a _ _=>(l.length - a).toNat,
  ⟨[],l,rfl,rfl,fun F hF=>(by cases hF),hM,by simp,by simp,by simpa using h⟩,?_⟩
 rintro _ a e w1 ⟨Fs,M,rfl,rfl,hF,hMb,hX,hP,h1⟩
 have hlen:=hP.length_eq
 have hFl:=hF.length
 rw [List.length_append,hFl] at hlen
 refine bLe (fun hle=> ?_) (fun hgt=> ?_)
 ·have e1:Fs.flatten++M=Fs.flatten++M.take 20++M.drop 20:=by rw [List.append_assoc,List.take_append_drop]
  have l1:(M.take 20).length=20:=by simp;omega
  have hMb':=hMb
  rw [<- List.take_append_drop 20 M] at hMb' hX
  have hX':=Crs.split hX hMb'
  rw [List.pairwise_append] at hMb'
  have lf:(Fs.flatten++M.take 20++M.drop 20).length=l.length:=by rw [<- e1];exact hP.length_eq
  rw [e1] at h1
  rw [<- hn]
  refine use (aio K hMb'.1 (by rw [lf];exact hn) (by omega) (by rw [lf];exact hc) h1 (by rw [hFl]) (by rw [hFl,l1];omega)) ?_
  rintro _ w2 ⟨rfl,M',hM',hMR,h2⟩
  rw [w64 (by omega) (by omega)]
  have l2:M'.length=20:=by rw [hM'.length_eq,l1]
  refine ⟨rfl,⟨Fs++ [M'],M.drop 20,by simp;omega,by simp;omega,hF.snoc l2 hMR,hMb'.2.1,?_,?_,?_⟩,by dsimp only;omega⟩
  ·have:=Crs.perm (Ps:=Fs) (Qs:= [M.drop 20]) hX' hM'
   simpa using this
  ·refine List.Perm.trans ?_ hP
   rw [e1]
   simp only [List.flatten_append,List.flatten_cons,List.flatten_nil,List.append_nil]
   exact (hM'.append_left _).append_right _
  ·simpa using h2
 ·have e1:Fs.flatten++M=Fs.flatten++M++ []:=by simp
  rw [e1] at h1
  rw [<- hn]
  refine use (aio K hMb (by rw [<- e1,hP.length_eq];exact hn) (by rw [<- e1,hP.length_eq];omega) (by rw [<- e1,hP.length_eq];exact hc) h1 (by rw [hFl]) (by rw [hFl];omega)) ?_
  rintro _ w2 ⟨rfl,T,hT,hTR,h2⟩
  rw [List.append_nil] at h2
  have lT:=hT.length_eq
  refine ⟨rfl,fun z w=>∃ (bs:Nat) (Fs:List (List Rst)) (T:List Rst),z=bs/\20<=bs/\Blks R bs Fs/\T.length<bs/\T.Pairwise R/\(Fs++ [T]).Pairwise (Crs b)/\(Fs.flatten++T).Perm l/\Sep E (rowA s 2 (recs Rst.vs (Fs.flatten++T))::L) w,fun z _=>(l.length - z).toNat,
   ⟨20,Fs,T,rfl,Nat.le_refl _,hF,by omega,hTR,Crs.perm hX hT,(hT.append_left _).trans hP,h2⟩,?_⟩
  rintro _ z w3 ⟨bs,Fs,T,rfl,hbs,hF,hTl,hTR,hX,hP,h3⟩
  have hlen:=hP.length_eq
  have hFl:=hF.length
  rw [List.length_append,hFl] at hlen
  refine bLt (fun hlt=> ?_) (fun hge=>⟨rfl,_,hP,?_,h3⟩)
  ·have hlt':bs<l.length:=by omega
   rw [w64 (n:=2*(bs:Int)) (by omega) (by omega)]
   refine ⟨fun a e w=>∃ Gs Fs T,a=(2*bs*Gs.length:Nat)/\e=(2*bs*Gs.length+2*bs:Nat)/\Blks R (2*bs) Gs/\Blks R bs Fs/\T.length<bs/\T.Pairwise R/\(Gs++(Fs++ [T])).Pairwise (Crs b)/\
     (Gs.flatten++(Fs.flatten++T)).Perm l/\Sep E (rowA s 2 (recs Rst.vs (Gs.flatten++(Fs.flatten++T)))::L) w,fun a _ _=>(l.length - a).toNat,
    ⟨[],Fs,T,by simp,by simp,fun F hF=>(by cases hF),hF,hTl,hTR,by simpa using hX,by simpa using hP,by simpa using h3⟩,?_⟩
   rintro _ a e w4 ⟨Gs,Fs,T,rfl,rfl,hG,hF,hTl,hTR,hX,hP,h4⟩
   have hlen:=hP.length_eq
   have hGl:=hG.length
   have hFl:=hF.length
   rw [List.length_append,List.length_append,hFl,hGl] at hlen
   have hmul:bs*Fs.length<=l.length:=by omega
   have hmul2:2*bs*Gs.length<=l.length:=by omega
   rw [w64 (n:=((2*bs*Gs.length:Nat):Int)+bs) (by omega) (by omega)]
   refine bLe (fun hle=> ?_) (fun hgt=> ?_)
   ·obtain ⟨F1,F2,Fs',rfl⟩:∃ F1 F2 Fs',Fs=F1::F2::Fs':=by
     match Fs,hlen with
     | [],hl=>simp at hl;omega
     | [F],hl=>simp at hl;omega
     | F1::F2::Fs',_=>exact ⟨F1,F2,Fs',rfl⟩
    have f1:=hF F1 (by simp)
    have f2:=hF F2 (by simp)
    have hX0:=hX
    rw [List.pairwise_append] at hX0
    have hcr:Crs b F1 F2:=(List.pairwise_cons.1 hX0.2.1).1 F2 (by simp)
    have e1:Gs.flatten++((F1::F2::Fs').flatten++T)=Gs.flatten++F1++F2++(Fs'.flatten++T):=by simp
    have lf:(Gs.flatten++F1++F2++(Fs'.flatten++T)).length=l.length:=by rw [<- e1];exact hP.length_eq
    rw [e1] at h4
    rw [<- hn]
    refine use (ajd K (by omega) hn hc _ (Nat.le_refl _) (by omega) (by omega) f1.2 f2.2 hcr lf h4 (by rw [hGl]) (by rw [hGl,f1.1]) (by rw [hGl,f1.1,f2.1];omega)) ?_
    rintro _ w5 ⟨rfl,Z,hZ,hZR,h5⟩
    have lz:Z.length=2*bs:=by rw [hZ.length_eq,List.length_append,f1.1,f2.1];omega
    rw [w64 (by omega) (by omega)]
    refine ⟨rfl,⟨Gs++ [Z],Fs',T,?_,?_,hG.snoc lz hZR,fun F hF'=>hF F (by simp [hF']),hTl,hTR,?_,?_,?_⟩,?_⟩
    ·rw [List.length_append,List.length_singleton,Nat.mul_add,Nat.mul_one]
    ·rw [List.length_append,List.length_singleton,Nat.mul_add,Nat.mul_one];omega
    ·have:=Crs.merge (Ps:=Gs) (Qs:=Fs'++ [T]) (by simpa using hX) hZ
     simpa using this
    ·refine List.Perm.trans ?_ hP
     rw [e1]
     simp only [List.flatten_append,List.flatten_cons,List.flatten_nil,List.append_nil]
     have:Gs.flatten++F1++F2++(Fs'.flatten++T)=Gs.flatten++(F1++F2)++(Fs'.flatten++T):=by simp
     rw [this]
     exact (hZ.append_left _).append_right _
    ·simpa using h5
    ·dsimp only;omega
   ·have fin:∀ {T':List Rst} {w':World},T'.length<2*bs ->T'.Pairwise R ->T'.Perm (Fs.flatten++T) ->(Gs++ [T']).Pairwise (Crs b) ->Sep E (rowA s 2 (recs Rst.vs (Gs.flatten++T'))::L) w' ->
      ((∃ (bs':Nat) (Fs:List (List Rst)) (T:List Rst),IntKind.i64.wrap ((bs:Int)*2)=bs'/\20<=bs'/\Blks R bs' Fs/\T.length<bs'/\T.Pairwise R/\(Fs++ [T]).Pairwise (Crs b)/\(Fs.flatten++T).Perm l/\Sep E (rowA s 2 (recs Rst.vs (Fs.flatten++T))::L) w')/\
       (l.length - IntKind.i64.wrap ((bs:Int)*2)).toNat<(l.length - (bs:Int)).toNat):=by
     intro T' w' h1 h2 h3 h4 h5
     rw [w64 (by omega) (by omega)]
     exact ⟨⟨2*bs,Gs,T',by omega,by omega,hG,h1,h2,h4,(h3.append_left _).trans hP,h5⟩,by omega⟩
    rcases Fs with _ | ⟨F,_ | ⟨F2,Fs'⟩⟩
    ·refine bLt (fun hc'=> ?_) (fun _=> ?_)
     ·exfalso;simp at hlen;omega
     ·exact fin (T':=T) (by omega) hTR (by simp) (by simpa using hX) (by simpa using h4)
    ·have f1:=hF F (by simp)
     simp only [List.length_singleton,Nat.mul_one] at hlen
     refine bLt (fun hc'=> ?_) (fun hc'=> ?_)
     ·have hX0:=hX
      rw [List.pairwise_append] at hX0
      have hcr:Crs b F T:=(List.pairwise_cons.1 hX0.2.1).1 T (by simp)
      have e1:Gs.flatten++([F].flatten++T)=Gs.flatten++F++T++ []:=by simp
      have lf:(Gs.flatten++F++T++ []).length=l.length:=by rw [<- e1];exact hP.length_eq
      rw [e1] at h4
      rw [<- hn]
      refine use (ajd K (by omega) hn hc _ (Nat.le_refl _) (by omega) (by omega) f1.2 hTR hcr lf h4 (by rw [hGl]) (by rw [hGl,f1.1]) (by rw [hGl,f1.1];omega)) ?_
      rintro _ w5 ⟨rfl,Z,hZ,hZR,h5⟩
      refine ⟨rfl,?_⟩
      rw [hn]
      refine fin (T':=Z) (by rw [hZ.length_eq,List.length_append,f1.1];omega) hZR (by simpa using hZ) ?_ (by simpa using h5)
      exact Crs.merge (Ps:=Gs) (Qs:= []) (by simpa using hX) hZ
     ·have hT0:T= []:=by
       have:T.length=0:=by omega
       exact List.length_eq_zero_iff.1 this
      subst hT0
      refine fin (T':=F) (by omega) f1.2 (by simp) ?_ (by simpa using h4)
      have:(Gs++F:: []:: []).Pairwise (Crs b):=by simpa using hX
      exact Crs.merge (Ps:=Gs) (Qs:= []) this (by simp)
    ·exfalso
     simp only [List.length_cons,Nat.mul_add,Nat.mul_one] at hlen
     omega
  ·have hge':l.length<=bs:=by omega
   match Fs,hF,hFl,hlen,hX with
   | [],_,_,_,_=>simpa using hTR
   | [F],hF,_,hlen,_=>
    have f1:=hF F (by simp)
    have hT0:T= []:=by
     have:T.length=0:=by simp at hlen;omega
     exact List.length_eq_zero_iff.1 this
    subst hT0
    simpa using f1.2
   | F1::F2::Fs',_,_,hlen,_=>
    exfalso
    simp only [List.length_cons,Nat.mul_add,Nat.mul_one] at hlen
    omega
theorem ami {l:List Rst} (K:agp R b lt) (hM:l.Pairwise b) (hn:s.n=l.length) (hbig:l.length<288230376151711744) (hc:Cmps E L s cmp lt l.length) (h:Sep E (rowA s 2 (recs Rst.vs l)::L) w):
  Calls P abH #[.slice s.p s.n s.c,cmp] w (Ret fun v w'=>v= .tuple #[]/\∃ l',l'.Perm l/\l'.Pairwise R/\Sep E (rowA s 2 (recs Rst.vs l')::L) w'):=by
 apply afd
 unfold acD
 refine use (auZ K hM hn hbig hc h) ?_
 rintro _ w1 ⟨rfl,h1⟩
 exact ⟨rfl,rfl,h1⟩
end
end Go.Mp.Sh
end
section
namespace Go.Proofs
open Go.Shelf
def Tryz.cloneA_ren:Go.Shelf.Ren:=⟨fun | 15=>143 | n=>n,fun | 22=>22 | 3=>3 | 4=>4 | n=>n,fun | n=>n⟩
theorem Tryz.cloneA:Go.Proofs.Lays2.n15 Tryz.prog Tryz.cloneA_ren:= {
 mixed:=by kernel_rfl
 f15:=Tryz.func143.trans (congrArg some (by kernel_rfl))
 t3:=Tryz.underlying3
 a3:=Tryz.isAgg3
 z3:=Tryz.sizeOf3
 v3:=Tryz.zeroValue3
 t4:=Tryz.underlying4
 a4:=Tryz.isAgg4
 z4:=Tryz.sizeOf4
 v4:=Tryz.zeroValue4
 t22:=Tryz.underlying22
 a22:=Tryz.isAgg22
 z22:=Tryz.sizeOf22
 v22:=Tryz.zeroValue22
 i3:=by kernel_rfl}
end Go.Proofs
end
