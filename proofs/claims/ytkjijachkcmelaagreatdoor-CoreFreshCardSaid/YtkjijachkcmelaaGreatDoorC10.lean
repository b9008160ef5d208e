/- Part of a proof about the core: of its walks and plain laws. -/
import Derived.Test.YtkjijachkcmelaaGreatDoorC09
import Derived.Shelf.SlIterI.Nil
import Derived.Shelf.SortM.Plain
import Derived.Shelf.SortM.SortNone
import Derived.Test.YtkjijachkcmelaaGreatDoorProg
set_option linter.all false
section
set_option maxRecDepth 100000
namespace Go.Mp
open Go Go.Vc Go.Sp Go.Proofs Go.Kc
variable {E:Env} {L:List Asn} {w W:World}
theorem aFT:slQ P adv=some (8,1,[.int .i64 0]):=by kernel_rfl
theorem ayQ {s:Sl} {q:Nat} {l:List Int} {x:Int} (hn:s.n=l.length) (hb:l.length<100000000) (h:Sep E (blk q [.int .i64 x]::rowA s 1 (intL l)::L) w) {G:Sl ->World ->Prop}
  (g:∀ s' w1,s'.n=(l++ [x]).length ->Sep E (rowA s' 1 (intL (l++ [x]))::L) w1 ->G s' w1):
  ∃ x1:Sl,∃ w1,Sem.run P (Builtin.append_ #[adv,adv] adv #[.slice s.p s.n s.c,.slice (some ⟨q,0,none⟩) 1 1]) w= .ok (.slice x1.p x1.n x1.c) w1/\G x1 w1:=by
 have hs:=Src.blk (n:=1) (c:=1) h (i:=0) rfl aFT rfl (fun u hu=>by simp at hu;rw [hu];rfl)
 have e:intL (l++ [x])=intL l++ [.int .i64 x]:=by simp [intL]
 refine rowA.append h.swap aFT rfl hs (by omega) (by rw [hn];omega) (fun s' w1 hs' h1=> ?_)
 refine g s' w1 (by rw [hs',hn];simp) ?_
 rw [e]
 exact (h1.fr 0 rfl).ro 2 [0] rfl
def agv (k:Int×Int):Value:= .agg #[.int .i64 k.1,.int .i64 k.2]
theorem aFq (a b:Int×Int) (h:agv a=agv b):a=b:=by
 obtain ⟨a1,a2⟩:=a;obtain ⟨b1,b2⟩:=b
 simpa [agv] using h
theorem aEK:acM P al5 agv:=acM.agg (d:=3) (l:= [.int .i64,.int .i64]) aFq (by kernel_rfl) (by decide) (by kernel_rfl) (fun k=>by
 unfold Typed;rw [show aggQ P al5=some true by kernel_rfl]
 exact ⟨_,rfl,⟨_,rfl⟩,⟨_,rfl⟩,trivial⟩)
def strV (t:List UInt8):Value:= .string ⟨t.toArray⟩
def acC (b:Nat) (F:FS):Asn:=exA fun s:Sl=>exA fun m:Nat=>exA fun wr:Int=>pur (s.n=F.sizes.length/\F.sizes.length<=32)
 (star (blk b [.slice s.p s.n s.c,.map (some m),.int .i64 wr]) (star (rowA s 1 (intL F.sizes)) (mapF m agv (fun k=>(F.pages k).map strV))))
theorem acC.get {b:Nat} {F:FS} (h:Sep E (acC b F::L) w):∃ (s:Sl) (m:Nat) (wr:Int),s.n=F.sizes.length/\F.sizes.length<=32/\
  Sep E (blk b [.slice s.p s.n s.c,.map (some m),.int .i64 wr]::rowA s 1 (intL F.sizes)::mapF m agv (fun k=>(F.pages k).map strV)::L) w:=by
 obtain ⟨s,h⟩:=Sep.ex.1 h
 obtain ⟨m,h⟩:=Sep.ex.1 h
 obtain ⟨wr,h⟩:=Sep.ex.1 h
 obtain ⟨hn,h⟩:=Sep.pur.1 h
 have h1:=(Sep.star.1 h).swap
 exact ⟨s,m,wr,hn.1,hn.2,(Sep.star.1 h1).ro 3 [2,0,1] rfl⟩
theorem acC.mk {b m:Nat} {F:FS} {s:Sl} {wr:Int} (hn:s.n=F.sizes.length) (h32:F.sizes.length<=32) (h:Sep E (blk b [.slice s.p s.n s.c,.map (some m),.int .i64 wr]::rowA s 1 (intL F.sizes)::mapF m agv (fun k=>(F.pages k).map strV)::L) w):Sep E (acC b F::L) w:=
 Sep.ex.2 ⟨s,Sep.ex.2 ⟨m,Sep.ex.2 ⟨wr,Sep.pur.2 ⟨⟨hn,h32⟩,Sep.star.2 (Sep.swap (Sep.star.2 (h.ro 3 [1,2,0] rfl)))⟩⟩⟩⟩
variable {b:Nat} {F:FS}
theorem aCC {q:Nat} (h:Sep E L w) (hq:L[q]? =some (acC b F)) (f:Int):Calls P ag9 #[.pointer (some ⟨b,0,none⟩),.int .i64 f] w (Ret fun v w'=>v= .int .i64 (aAy F f)/\w'=w):=by
 apply aqu
 unfold ajU
 obtain ⟨s,m,wr,hn,h32,h1⟩:=acC.get (h.fr q hq)
 unfold aAy
 refine ⟨fun w'=>w'=w/\0<=f/\f<F.sizes.length,bLt (fun hh=>⟨by rw [if_pos (.inl hh)],rfl⟩) (fun hh=>⟨_,rfl,s,h1.cell 0,bGe (fun hg=>⟨by rw [if_pos (.inr (by omega))],rfl⟩) (fun hg=>⟨rfl,hh,by omega⟩)⟩),?_⟩
 rintro _ w2 ⟨rfl,h0,hlt⟩
 refine ⟨_,rfl,s,h1.cell 0,elI 1 h1 rfl hn h0 hlt (fun a ha=>⟨_,ha,?_,rfl⟩)⟩
 rw [if_neg (by omega)]
theorem awo {q:Nat} (h:Sep E L w) (hq:L[q]? =some (acC b F)) (k:Int×Int):Calls P ad7 #[.pointer (some ⟨b,0,none⟩),agv k] w (Ret fun v w'=>v= .bool (fHas F k)/\Sep E L w'):=by
 show Calls P ad7 #[.pointer (some ⟨b,0,none⟩),.agg #[.int .i64 k.1,.int .i64 k.2]] w _
 apply arR
 unfold alc
 refine Al.i h (fun p w1 h1=>Dr.i h1 (fun w2 h2=>⟨_,by rw [aad];exact h2.cell 1,bLe (fun hle=> ?_) (fun hgt=> ?_)⟩))
 ·refine ⟨_,by rw [aad];exact h2.cell 1,_,by rw [aad];exact h2.cell 0,use (aCC (q:=q+1) h2 (by simpa using hq) k.1) ?_⟩
  rintro _ w3 ⟨rfl,rfl⟩
  refine ⟨_,rfl,_,by rw [aad];exact h2.cell 1,rfl,?_,h2.tail⟩
  unfold fHas
  rw [decide_eq_true hle];rfl
 ·refine ⟨?_,h2.tail⟩
  unfold fHas
  rw [decide_eq_false (by omega)];rfl
theorem u8w (n:Int):IntKind.u8.wrap n=n % 256:=by unfold IntKind.wrap;simp [IntKind.signed,IntKind.bits]
theorem aCc (n:Int):((u8I n).toNat:Int)=n % 256:=by
 unfold u8I
 rw [UInt8.toNat_ofNat']
 omega
theorem aAV (k:Int×Int) (h:Sep E L w):Calls P ahZ #[agv k] w (Ret fun v w'=>v=strV (ahs k)/\Sep E L w'):=by
 show Calls P ahZ #[.agg #[.int .i64 k.1,.int .i64 k.2]] w _
 apply ayj
 unfold aoz
 refine Al.i h (fun p w1 h1=>Al.i h1 (fun p2 w2 h2=> ?_))
 refine ⟨_,by rw [aad];exact h2.cellAt 1 rfl 0,_,by rw [aad];exact h2.cellAt 1 rfl 1,?_⟩
 have h2:Sep E (blk p2 (u8s (List.replicate 16 0))::L) w2:=by
  have e:u8s (List.replicate 16 0)= [.int .u8 0,.int .u8 0,.int .u8 0,.int .u8 0,.int .u8 0,.int .u8 0,.int .u8 0,.int .u8 0,.int .u8 0,.int .u8 0,.int .u8 0,.int .u8 0,.int .u8 0,.int .u8 0,.int .u8 0,.int .u8 0]:=by simp [u8s,List.replicate]
  rw [e]
  exact h2.ro 2 [0] rfl
 refine ⟨fun x w'=>∃ j:Nat,x=j/\j<=16/\Sep E (blk p2 (u8s ((ahs k).take j++List.replicate (16 - j) 0))::L) w',fun x _=>(16 - x).toNat,⟨0,rfl,by omega,by rw [List.take_zero,List.nil_append];exact h2⟩,?_⟩
 rintro _ x w3 ⟨j,rfl,hj,h3⟩
 have hl:(ahs k).length=16:=by simp [ahs]
 refine bLt (fun hlt=> ?_) (fun hge=> ?_)
 ·have hj':j<16:=by omega
  refine ⟨_,rfl,⟨by omega,by omega⟩,St.j h3 (by simp;omega) (fun w4 h4=> ?_)⟩
  refine ⟨⟨j+1,aah (by omega),by omega,?_⟩,by dsimp only;rw [aah (by omega)];omega⟩
  have e:(u8s ((ahs k).take j++List.replicate (16 - j) 0)).set (0+((j:Nat):Int).toNat*1) (.int .u8 (IntKind.u8.wrap ((IntKind.u8.wrap ((IntKind.u8.wrap ((IntKind.u8.wrap k.1)*31))+(IntKind.u8.wrap ((IntKind.u8.wrap k.2)*7))))+(IntKind.u8.wrap ((j:Nat):Int)))))=u8s ((ahs k).take (j+1)++List.replicate (16 - (j+1)) 0):=by
   rw [Nat.zero_add,Nat.mul_one,Int.toNat_natCast]
   have hv:(ahs k)[j]? =some (u8I (31*k.1+7*k.2+(j:Int))):=by unfold ahs;rw [List.getElem?_map,List.getElem?_range hj'];rfl
   rw [aaj hv]
   unfold u8s
   rw [List.map_append,List.map_append,List.map_append,List.set_append_right _ _ (by simp;omega)]
   rw [show j - ((List.take j (ahs k)).map fun b=>Value.int .u8 (b.toNat:Int)).length=0 by simp;omega,show 16 - j=(16 - (j+1))+1 by omega,List.replicate_succ,List.map_cons,List.set_cons_zero,List.append_assoc]
   congr 1
   simp only [List.map_cons,List.map_nil,List.singleton_append]
   congr 2
   rw [aCc,u8w,u8w,u8w,u8w,u8w,u8w,u8w]
   omega
  rw [e] at h4
  exact h4
 ·have:j=16:=by omega
  subst this
  rw [List.take_of_length_le (by omega),Nat.sub_self,List.replicate_zero,List.append_nil] at h3
  refine ⟨_,fun w' g=> ?_,rfl,h3.tail⟩
  have h4:=h3.grow g
  obtain ⟨e,q1,q2⟩:=aAQ (P:=P) (t:=aiv) (by kernel_rfl)
  have:=run_convert_bytes_back (P:=P) w' aiv asE e ⟨p2,0,none⟩ (16 - 0) (ahs k) q1 q2 (by kernel_rfl) (fun i hi=>by rw [aad,h4.cell,Nat.zero_add,aoH,List.getElem?_eq_getElem hi];rfl)
  rw [hl] at this
  exact this
theorem aum (k:Int×Int) (h:Sep E (acC b F::L) w):Calls P adH #[.pointer (some ⟨b,0,none⟩),agv k] w
  (Ret fun v w'=>v= .tuple #[strV (asU F k).1,.int .i64 (asU F k).2]/\Sep E (acC b F::L) w'):=by
 show Calls P adH #[.pointer (some ⟨b,0,none⟩),.agg #[.int .i64 k.1,.int .i64 k.2]] w _
 apply aqt
 unfold ajT
 refine Al.i h (fun p w1 h1=>⟨_,by rw [aad];exact h1.cell 0,_,by rw [aad];exact h1.cell 1,use (awo (q:=1) h1 rfl k) ?_⟩)
 rintro _ w2 ⟨rfl,h2⟩
 refine ⟨_,rfl,?_⟩
 unfold asU
 cases hh:fHas F k with
 | false=>exact bifT ⟨rfl,h2.tail⟩
 | true=>
  refine bifF (Dr.i h2 (fun w3 h3=> ?_))
  obtain ⟨s,m,wr,hn,h32,h4⟩:=acC.get h3.swap
  have h5:Sep E (blk p [.int .i64 k.1,.int .i64 k.2]::acC b F::L) w3:=h3
  refine ⟨_,rfl,some m,by rw [aad];exact h4.cell 1,_,by rw [aad];exact h5.cell 0,_,by rw [aad];exact h5.cell 1,?_⟩
  have hl:=aca.i true 2 h4 rfl aEK (t:=aoG) (z:= .string ⟨#[]⟩) (by kernel_rfl) k
  cases hp:F.pages k with
  | some t=>
   simp only [hp,Option.map_some,Option.getD_some,Option.isSome_some] at hl
   exact ⟨_,_,hl,bifT ⟨rfl,h5.tail⟩⟩
  | none=>
   simp only [hp,Option.map_none,Option.getD_none,Option.isSome_none] at hl
   refine ⟨_,_,hl,bifF ⟨_,by rw [aad];exact h5.cell 0,_,by rw [aad];exact h5.cell 1,use (aAV k h5) ?_⟩⟩
   rintro _ w4 ⟨rfl,h6⟩
   exact ⟨_,rfl,rfl,h6.tail⟩
theorem aAW (k:Int×Int) (t:List UInt8) (h:Sep E (acC b F::L) w):Calls P aeE #[.pointer (some ⟨b,0,none⟩),agv k,strV t] w
  (Ret fun v w'=>v= .int .i64 (aht F k t).2/\Sep E (acC b (aht F k t).1::L) w'):=by
 show Calls P aeE #[.pointer (some ⟨b,0,none⟩),.agg #[.int .i64 k.1,.int .i64 k.2],.string ⟨t.toArray⟩] w _
 apply aps
 unfold ajA
 refine Al.i h (fun p w1 h1=>⟨_,by rw [aad];exact h1.cell 0,_,by rw [aad];exact h1.cell 1,use (awo (q:=1) h1 rfl k) ?_⟩)
 rintro _ w2 ⟨rfl,h2⟩
 refine ⟨_,rfl,?_⟩
 unfold aht
 have hsz:(⟨t.toArray⟩:ByteArray).size=t.length:=by show t.toArray.size=_;simp
 rw [hsz]
 cases hh:fHas F k with
 | false=>exact bifT ⟨rfl,h2.tail⟩
 | true=>
  refine bifF (bNe (fun hne=> ?_) (fun he=> ?_))
  ·have hne':t.length≠16:=by omega
   rw [if_neg (by decide),if_pos hne']
   exact ⟨rfl,h2.tail⟩
  ·have he':¬ t.length≠16:=by omega
   rw [if_neg (by decide),if_neg he']
   refine Dr.i h2 (fun w3 h3=> ?_)
   obtain ⟨s,m,wr,hn,h32,h4⟩:=acC.get h3.swap
   refine ⟨_,rfl,some m,by rw [aad];exact h4.cell 1,_,by rw [aad];exact h4.cellAt 3 rfl 0,_,by rw [aad];exact h4.cellAt 3 rfl 1,?_⟩
   refine mapUpdate.i (h4.ro 4 [2,0,1,3] rfl) aEK (z:= .string ⟨#[]⟩) (by kernel_rfl) k _ (fun w4 h5=> ?_)
   refine ⟨_,rfl,wr,by rw [aad];exact (h5.cellAt 1 rfl _).trans rfl,_,rfl,?_⟩
   refine St.j h5.swap (show 0+2<3 by decide) (fun w5 h6=>⟨rfl,?_⟩)
   have h7:Sep E (blk b [.slice s.p s.n s.c,.map (some m),.int .i64 (IntKind.i64.wrap (wr+1))]::mapF m agv (upd (fun k=>(F.pages k).map strV) k (some (strV t)))::rowA s 1 (intL F.sizes)::blk p [.int .i64 k.1,.int .i64 k.2]::L) w5:=h6
   have e:(upd (fun k=>(F.pages k).map strV) k (some (strV t)))=fun x=>((fun x=>if x=k then some t else F.pages x) x).map strV:=by
    funext x;unfold upd;dsimp only;split<;>rfl
   rw [e] at h7
   exact acC.mk (F:= {F with pages:=fun x=>if x=k then some t else F.pages x}) hn h32 (h7.ro 4 [0,2,1] rfl)
theorem aD8 {s:Sl} {l:List Int} (hI:Ints E L s l) (hcap:s.n<=s.c) (h:Sep E L w):Calls P ajh #[.slice s.p s.n s.c] w (Ret fun v w'=>∃ b,v= .pointer (some ⟨b,0,none⟩)/\Sep E (acC b (fNew l)::L) w'):=by
 apply aBQ
 unfold asw
 have hn:=hI.1
 refine mapF.new (enc:=agv) h (fun m w1 h1=>Al.i h1 (fun p w2 h2=> ?_))
 have hm:min1 ((s.n:Nat):Int) 32=((min l.length 32:Nat):Int):=by unfold min1;split<;>omega
 rw [hm]
 refine ⟨⟨by omega,by omega⟩,?_⟩
 simp only [Int.toNat_natCast,Nat.sub_zero]
 have hsl:(fNew l).sizes.length=min l.length 32:=by simp [fNew];omega
 refine ⟨fun x w'=>∃ j:Nat,x=j/\j<=min l.length 32/\∃ t:Sl,t.n=((fNew l).sizes.take j).length/\Sep E (rowA t 1 (intL ((fNew l).sizes.take j))::blk p [.slice t.p t.n t.c,.map (some m),.int .i64 0]::mapF m agv (fun _=>none)::L) w',
  fun x _=>(min l.length 32 - x).toNat,⟨0,rfl,Nat.zero_le _,⟨none,0,0⟩,rfl,rowA.none_ h2⟩,?_⟩
 rintro _ x w3 ⟨j,rfl,hj,t,ht,h3⟩
 refine bLt (fun hlt=> ?_) (fun hge=> ?_)
 ·have hj':j<min l.length 32:=by omega
  obtain ⟨y,hy⟩:∃ y,l[j]? =some y:=⟨_,List.getElem?_eq_getElem (by omega)⟩
  obtain ⟨a,ha,hcell⟩:=(hI.cons.cons.cons (A:=rowA t 1 (intL ((fNew l).sizes.take j)))).2 w3 h3 j y hy
  have hsy:(fNew l).sizes[j]? =some (min (max y 0) 4096):=by unfold fNew;rw [List.getElem?_map,List.getElem?_take,if_pos (by omega),hy];rfl
  refine ⟨a.add 0,?_,⟨by omega,by omega⟩,?_⟩
  ·unfold slA
   split
   ·omega
   ·rw [ha];simp
  ·refine ⟨y,?_,_,rfl,t,by rw [aad];exact h3.cellAt 1 rfl 0,Al.i h3 (fun q w4 h4=> ?_)⟩
   ·rw [Int.toNat_natCast,Nat.mul_one]
    have:((a.add 0).add j)=a.add j:=by cases a;unfold Addr.add;simp
    rw [this];exact hcell
   ·have e:min1 (max1 y 0) 4096=min (max y 0) 4096:=by unfold min1 max1;split<;>split<;>omega
    have h4:Sep E (blk q [.int .i64 (min (max y 0) 4096)]::rowA t 1 (intL ((fNew l).sizes.take j))::blk p [.slice t.p t.n t.c,.map (some m),.int .i64 0]::mapF m agv (fun _=>none)::L) w4:=by rw [<- e];exact h4
    refine ayQ ht (by rw [List.length_take];omega) h4 (fun t' w5 ht' h5=> ?_)
    rw [<- aaj hsy] at ht' h5
    refine ⟨_,rfl,?_⟩
    refine St.j h5.swap (show 0+0<3 by decide) (fun w6 h6=> ?_)
    exact ⟨⟨j+1,aah (by omega),by omega,t',ht',h6.swap⟩,by dsimp only;rw [aah (by omega)];omega⟩
 ·have:j=min l.length 32:=by omega
  subst this
  have e:(fNew l).sizes.take (min l.length 32)=(fNew l).sizes:=List.take_of_length_le (by omega)
  rw [e] at ht h3
  exact ⟨p,rfl,acC.mk (F:=fNew l) ht (by rw [hsl];omega) (h3.ro 3 [1,0,2] rfl)⟩
def sumN:List Nat ->Nat
 | []=>0
 | k::l=>k+sumN l
theorem aiu:∀ (a b:List Nat),sumN (a++b)=sumN a+sumN b
 | [],b=>by simp [sumN]
 | x::a,b=>by show x+sumN (a++b)=x+sumN a+sumN b;rw [aiu a b];omega
theorem amO (l:List Nat) (k:Nat):sumN (l.take k)<=sumN l:=by
 have:=aiu (l.take k) (l.drop k)
 rw [List.take_append_drop] at this;omega
def ints (l:List Nat):List Int:=l.map Int.ofNat
theorem amw {l:List Nat} {k x:Nat} (h:l[k]? =some x):(ints l)[k]? =some (x:Int):=by unfold ints;rw [List.getElem?_map,h];rfl
theorem ag4 (l:List Nat):(ints l).length=l.length:=by simp [ints]
theorem aul {s:Sl} {ws:List Nat} (hI:Ints E L s (ints ws)) (h62:∀ k∈ws,k<=62) (h64:sumN ws<=64) (hb:ws.length<1000) (h:Sep E L w):Calls P aiy #[.slice s.p s.n s.c] w (Ret fun v w'=>v= .tuple #[.int .i64 (sumN ws:Nat),.bool true]/\w'=w):=by
 apply aAq
 unfold apO
 have hn:=hI.1
 rw [ag4] at hn
 refine ⟨fun n x w'=>w'=w/\∃ k:Nat,x=k/\k<=ws.length/\n=(sumN (ws.take k):Nat),fun _ x _=>(ws.length - x).toNat,⟨rfl,0,rfl,Nat.zero_le _,rfl⟩,?_⟩
 rintro _ n x w1 ⟨rfl,k,rfl,hk,rfl⟩
 refine bLt (fun hlt=> ?_) (fun hge=> ?_)
 ·obtain ⟨y,hy⟩:∃ y,ws[k]? =some y:=⟨_,List.getElem?_eq_getElem (by omega)⟩
  have hy62:=h62 y (List.mem_of_getElem? hy)
  have hs:sumN (ws.take (k+1))=sumN (ws.take k)+y:=by rw [aaj hy,aiu];rfl
  have hle:=amO ws (k+1)
  refine hI.el h k rfl (amw hy) ?_
  have e1:IntKind.i64.wrap (((sumN (ws.take k):Nat):Int)+(y:Int))=((sumN (ws.take (k+1)):Nat):Int):=by rw [hs,w64 (by omega) (by omega)];omega
  rw [e1]
  refine bLt (fun hh=>absurd hh (by omega)) (fun _=>bGt (fun hh=>absurd hh (by omega)) (fun _=>bGt (fun hh=>absurd hh (by omega)) (fun _=> ?_)))
  exact ⟨⟨rfl,k+1,aah (by omega),by omega,rfl⟩,by dsimp only;rw [aah (by omega)];omega⟩
 ·have:k=ws.length:=by omega
  subst this
  rw [List.take_length]
  exact ⟨rfl,rfl⟩
theorem p2 (k:Nat):(2:Int) ^ k=((2 ^ k:Nat):Int):=by push_cast;rfl
theorem aFa {k:Nat} (hk:k<=62) (w:World):Calls P ajg #[.int .i64 (k:Nat)] w (Ret fun v w'=>v= .int .u64 ((2 ^ k - 1:Nat):Int)/\w'=w):=by
 apply aBM
 unfold asi
 have hp:=p64 (k:=k) (by omega)
 have h0:=Nat.two_pow_pos k
 rw [u64n (n:=k) (by omega),show (min ((k:Nat):Int).toNat 64)=k by rw [Int.toNat_natCast];omega,Int.one_mul,p2,u64n hp,show (((2 ^ k:Nat):Int) - 1)=((2 ^ k - 1:Nat):Int) by omega,u64n (by omega)]
 exact ⟨by omega,rfl,rfl⟩
def fields:List Nat ->Nat ->List Nat
 | [],_=> []
 | k::ws,x=>x % 2 ^ k::fields ws (x / 2 ^ k)
theorem fields_length:∀ (ws:List Nat) (x:Nat),(fields ws x).length=ws.length
 | [],_=>rfl
 | k::ws,x=>by show (fields ws _).length+1=_;rw [fields_length ws];rfl
theorem ayM:∀ {ws:List Nat} {x k y:Nat},ws[k]? =some y ->(fields ws x)[k]? =some (x / 2 ^ sumN (ws.take k) % 2 ^ y)
 | [],_,_,_,h=>by simp at h
 | z::ws,x,0,y,h=>by
  simp only [List.getElem?_cons_zero,Option.some.injEq] at h
  subst h
  show some _=_
  simp [sumN]
 | z::ws,x,k+1,y,h=>by
  show (fields ws (x / 2 ^ z))[k]? =_
  rw [ayM (by simpa using h),Nat.div_div_eq_div_mul,<- Nat.pow_add];rfl
theorem aGm {s:Sl} {ws:List Nat} (hI:Ints E L s (ints ws)) (h62:∀ k∈ws,k<=62) (h64:sumN ws<64) (hb:ws.length<1000) {x:Nat} (hx:x<18446744073709551616) (h:Sep E L w):
  Calls P akj #[.slice s.p s.n s.c,.int .u64 (x:Nat)] w (Ret fun v w'=>(x / 2 ^ sumN ws=0/\∃ t:Sl,v= .tuple #[.slice t.p t.n t.c,.int .i64 0]/\t.n=ws.length/\Sep E (rowA t 1 (intL (ints (fields ws x)))::L) w')\/
   (x / 2 ^ sumN ws≠0/\v= .tuple #[.slice none 0 0,.int .i64 1]/\Sep E L w')):=by
 apply ayh
 unfold aow
 have hn:=hI.1
 rw [ag4] at hn
 refine use (aul hI h62 (by omega) hb h) ?_
 rintro _ w1 ⟨rfl,rfl⟩
 refine ⟨_,_,rfl,fun w'=>w'=w1/\x / 2 ^ sumN ws=0,bifF (bLt (fun _=> ?_) (fun hh=>absurd hh (by omega))),?_⟩
 ·rw [u64n (n:=sumN ws) (by omega),show (min ((sumN ws:Nat):Int).toNat 64)=sumN ws by rw [Int.toNat_natCast];omega,sh]
  refine ⟨by omega,bNe (fun hne=> ?_) (fun he=> ?_)⟩
  ·exact .inr ⟨by omega,rfl,h⟩
  ·exact ⟨rfl,by omega⟩
 ·rintro _ w2 ⟨rfl,h0⟩
  refine ⟨fun y t i w'=>∃ k:Nat,i=k/\k<=ws.length/\y=((x / 2 ^ sumN (ws.take k):Nat):Int)/\t.n=((ints (fields ws x)).take k).length/\Sep E (rowA t 1 (intL ((ints (fields ws x)).take k))::L) w',fun _ _ i _=>(ws.length - i).toNat,
   ⟨0,rfl,Nat.zero_le _,by simp [sumN],rfl,rowA.none_ h⟩,?_⟩
  rintro _ y t i w3 ⟨k,rfl,hk,rfl,ht,h3⟩
  refine bLt (fun hlt=> ?_) (fun hge=> ?_)
  ·obtain ⟨z,hz⟩:∃ z,ws[k]? =some z:=⟨_,List.getElem?_eq_getElem (by omega)⟩
   have hz62:=h62 z (List.mem_of_getElem? hz)
   have hs:sumN (ws.take (k+1))=sumN (ws.take k)+z:=by rw [aaj hz,aiu];rfl
   refine (hI.cons (A:=rowA t 1 (intL ((ints (fields ws x)).take k)))).el h3 k rfl (amw hz) (use (aFa hz62 w3) ?_)
   rintro _ w4 ⟨rfl,rfl⟩
   refine ⟨_,rfl,?_⟩
   have hp:=p64 (k:=z) (by omega)
   have hp0:=Nat.two_pow_pos z
   have hlt2:x / 2 ^ sumN (ws.take k)<18446744073709551616:=Nat.lt_of_le_of_lt (Nat.div_le_self _ _) hx
   have hz63:2 ^ z<9223372036854775808:=Nat.pow_lt_pow_right (a:=2) (n:=63) (by decide) (by omega)
   have e1:IntKind.i64.wrap (andI .u64 (((x / 2 ^ sumN (ws.take k):Nat):Int)) (((2 ^ z - 1:Nat):Int)))=((x / 2 ^ sumN (ws.take k) % 2 ^ z:Nat):Int):=by
    rw [aem hlt2 (by omega),Nat.and_two_pow_sub_one_eq_mod]
    have:=Nat.mod_lt (x / 2 ^ sumN (ws.take k)) hp0
    exact w64 (by omega) (by omega)
   rw [e1]
   have hv:(ints (fields ws x))[k]? =some ((x / 2 ^ sumN (ws.take k) % 2 ^ z:Nat):Int):=amw (ayM hz)
   refine Al.i h3 (fun q w5 h5=>ayQ ht (by rw [List.length_take,ag4,fields_length];omega) h5 (fun t' w6 ht' h6=> ?_))
   rw [<- aaj hv] at ht' h6
   rw [u64n (n:=z) (by omega),show (min ((z:Nat):Int).toNat 64)=z by rw [Int.toNat_natCast];omega,sh]
   refine ⟨by omega,⟨k+1,aah (by omega),by omega,?_,ht',h6⟩,by dsimp only;rw [aah (by omega)];omega⟩
   rw [hs,Nat.pow_add,<- Nat.div_div_eq_div_mul]
  ·have:k=ws.length:=by omega
   subst this
   have e:(ints (fields ws x)).take ws.length=ints (fields ws x):=List.take_of_length_le (by rw [ag4,fields_length];omega)
   rw [e] at ht h3
   exact .inl ⟨h0,t,rfl,by rw [ht,ag4,fields_length],h3⟩
def afb:List Nat ->List Nat ->Nat
 | k::ws,v::vs=>v+2 ^ k*afb ws vs
 | _,_=>0
theorem avI:∀ {ws vs:List Nat},(∀ (k y v:Nat),ws[k]? =some y ->vs[k]? =some v ->v<2 ^ y) ->afb ws vs<2 ^ sumN ws
 | [],_,_=>by show 0<2 ^ 0;decide
 | k::ws,[],_=>Nat.two_pow_pos _
 | k::ws,v::vs,h=>by
  have h0:=h 0 k v rfl rfl
  have h1:=avI (ws:=ws) (vs:=vs) (fun i y u hy hu=>h (i+1) y u (by simpa using hy) (by simpa using hu))
  show v+2 ^ k*afb ws vs<2 ^ (k+sumN ws)
  rw [Nat.pow_add]
  have:2 ^ k*afb ws vs+2 ^ k<=2 ^ k*2 ^ sumN ws:=by
   rw [<- Nat.mul_succ];exact Nat.mul_le_mul_left _ h1
  omega
theorem axi:∀ {ws vs:List Nat} {k y v:Nat},ws[k]? =some y ->vs[k]? =some v ->afb (ws.take (k+1)) (vs.take (k+1))=afb (ws.take k) (vs.take k)+2 ^ sumN (ws.take k)*v
 | [],_,_,_,_,h,_=>by simp at h
 | _::_,[],_,_,_,_,h=>by simp at h
 | z::ws,u::vs,0,y,v,h1,h2=>by
  simp only [List.getElem?_cons_zero,Option.some.injEq] at h1 h2
  subst h1 h2
  simp [afb,sumN]
 | z::ws,u::vs,k+1,y,v,h1,h2=>by
  have ih:=axi (ws:=ws) (vs:=vs) (k:=k) (y:=y) (v:=v) (by simpa using h1) (by simpa using h2)
  show u+2 ^ z*afb (ws.take (k+1)) (vs.take (k+1))=(u+2 ^ z*afb (ws.take k) (vs.take k))+2 ^ (z+sumN (ws.take k))*v
  rw [ih,Nat.mul_add,Nat.pow_add,Nat.mul_assoc,Nat.add_assoc]
theorem aIh {a k v:Nat} (ha:a<2 ^ k):a ||| (2 ^ k*v)=a+2 ^ k*v:=by
 rw [Nat.or_comm,<- Nat.two_pow_add_eq_or_of_lt ha,Nat.add_comm]
theorem aH3 {s t:Sl} {ws vs:List Nat} (hI:Ints E L s (ints ws)) (hJ:Ints E L t (ints vs)) (h62:∀ k∈ws,k<=62) (h64:sumN ws<=63) (hb:ws.length<1000) (hl:vs.length=ws.length) (h63:∀ u∈vs,u<9223372036854775808) (h:Sep E L w):
  Calls P amt #[.slice s.p s.n s.c,.slice t.p t.n t.c] w (Ret fun v w'=>(((∀ (k y u:Nat),ws[k]? =some y ->vs[k]? =some u ->u<2 ^ y)/\v= .tuple #[.int .u64 (afb ws vs:Nat),.int .i64 0])\/((¬ ∀ (k y u:Nat),ws[k]? =some y ->vs[k]? =some u ->u<2 ^ y)/\v= .tuple #[.int .u64 0,.int .i64 1]))/\w'=w):=by
 apply aBL
 unfold ash
 have hn:=hI.1
 have hn2:=hJ.1
 rw [ag4] at hn hn2
 refine ⟨fun w'=>w'=w,use (aul hI h62 (by omega) hb h) ?_,?_⟩
 ·rintro _ w1 ⟨rfl,rfl⟩
  exact ⟨_,_,rfl,bifF (bNe (fun hh=>absurd (show ((t.n:Nat):Int)=((s.n:Nat):Int) by omega) hh) (fun _=>rfl))⟩
 ·rintro _ w1 rfl
  refine ⟨fun x low i w'=>w'=w1/\∃ k:Nat,i=k/\k<=ws.length/\x=((afb (ws.take k) (vs.take k):Nat):Int)/\low=((sumN (ws.take k):Nat):Int)/\∀ (j y u:Nat),j<k ->ws[j]? =some y ->vs[j]? =some u ->u<2 ^ y,fun _ _ i _=>(ws.length - i).toNat,
   ⟨rfl,0,rfl,Nat.zero_le _,by simp [afb],rfl,fun j _ _ hj=>by omega⟩,?_⟩
  rintro _ x low i w2 ⟨rfl,k,rfl,hk,rfl,rfl,hall⟩
  refine bLt (fun hlt=> ?_) (fun hge=> ?_)
  ·obtain ⟨y,hy⟩:∃ y,ws[k]? =some y:=⟨_,List.getElem?_eq_getElem (by omega)⟩
   obtain ⟨u,hu⟩:∃ u,vs[k]? =some u:=⟨_,List.getElem?_eq_getElem (by omega)⟩
   have hy62:=h62 y (List.mem_of_getElem? hy)
   have hs:sumN (ws.take (k+1))=sumN (ws.take k)+y:=by rw [aaj hy,aiu];rfl
   have hle:=amO ws (k+1)
   refine hI.el h k rfl (amw hy) (hJ.el h k rfl (amw hu) ?_)
   have hy0:=Nat.two_pow_pos y
   have hy63:2 ^ y<9223372036854775808:=Nat.pow_lt_pow_right (a:=2) (n:=63) (by decide) (by omega)
   have bad:¬ u<2 ^ y ->¬ ∀ (k y u:Nat),ws[k]? =some y ->vs[k]? =some u ->u<2 ^ y:=fun hh hall=>hh (hall k y u hy hu)
   refine ⟨fun w'=>w'=w2/\u<2 ^ y,bLt (fun hh=>absurd hh (by omega)) (fun _=>use (aFa hy62 w2) ?_),?_⟩
   ·rintro _ w3 ⟨rfl,rfl⟩
    refine ⟨_,rfl,?_⟩
    have hbig:=h63 u (List.mem_of_getElem? hu)
    rw [u64n (n:=u) (by omega)]
    exact bGt (fun hh=>⟨.inr ⟨bad (by omega),rfl⟩,rfl⟩) (fun hh=>⟨rfl,by omega⟩)
   ·rintro _ w3 ⟨rfl,hu2⟩
    have hlow:sumN (ws.take k)<64:=by have:=amO ws k;omega
    have hpk:afb (ws.take k) (vs.take k)<2 ^ sumN (ws.take k):=avI (fun j y' u' h1 h2=>by
     rw [List.getElem?_take] at h1 h2
     split at h1
     ·next hj=>rw [if_pos hj] at h2;exact hall j y' u' hj h1 h2
     ·cases h1)
    have hfull:afb (ws.take (k+1)) (vs.take (k+1))<2 ^ sumN (ws.take (k+1)):=avI (fun j y' u' h1 h2=>by
     rw [List.getElem?_take] at h1 h2
     split at h1
     ·next hj=>
      rw [if_pos hj] at h2
      rcases Nat.lt_or_ge j k with hjk | hjk
      ·exact hall j y' u' hjk h1 h2
      ·have:j=k:=by omega
       subst this
       rw [hy] at h1;rw [hu] at h2
       rw [<- Option.some.inj h1,<- Option.some.inj h2];exact hu2
     ·cases h1)
    have hf64:afb (ws.take (k+1)) (vs.take (k+1))<18446744073709551616:=Nat.lt_of_lt_of_le hfull (Nat.pow_le_pow_right (n:=2) (by decide) (show sumN (ws.take (k+1))<=64 by omega))
    have hpt:=axi hy hu
    have e1:orI .u64 ((afb (ws.take k) (vs.take k):Nat):Int) (IntKind.u64.wrap ((IntKind.u64.wrap (u:Int))*2 ^ (min ((sumN (ws.take k):Nat):Int).toNat 64)))=((afb (ws.take (k+1)) (vs.take (k+1)):Nat):Int):=by
     rw [show (min ((sumN (ws.take k):Nat):Int).toNat 64)=sumN (ws.take k) by rw [Int.toNat_natCast];omega,u64n (n:=u) (by omega),p2,<- Int.natCast_mul,Nat.mul_comm,u64n (by rw [hpt] at hf64;exact Nat.lt_of_le_of_lt (Nat.le_add_left _ _) hf64),or64 (Nat.lt_of_lt_of_le hpk (Nat.pow_le_pow_right (n:=2) (by decide) (show sumN (ws.take k)<=64 by omega))) (by rw [hpt] at hf64;exact Nat.lt_of_le_of_lt (Nat.le_add_left _ _) hf64),aIh hpk,<- hpt]
    have e2:IntKind.u64.wrap (((sumN (ws.take k):Nat):Int)+(IntKind.u64.wrap (y:Int)))=((sumN (ws.take (k+1)):Nat):Int):=by
     rw [u64n (n:=y) (by omega),<- Int.natCast_add,u64n (by omega),hs]
    rw [e1,e2]
    refine ⟨by omega,⟨rfl,k+1,aah (by omega),by omega,rfl,rfl,fun j y' u' hj h1 h2=> ?_⟩,by dsimp only;rw [aah (by omega)];omega⟩
    rcases Nat.lt_or_ge j k with hjk | hjk
    ·exact hall j y' u' hjk h1 h2
    ·have:j=k:=by omega
     subst this
     rw [hy] at h1;rw [hu] at h2
     rw [<- Option.some.inj h1,<- Option.some.inj h2];exact hu2
  ·have:k=ws.length:=by omega
   subst this
   refine ⟨.inl ⟨fun k y u hy hu=>hall k y u (List.getElem?_eq_some_iff.1 hy).1 hy hu,?_⟩,rfl⟩
   rw [List.take_length,List.take_of_length_le (by omega)]
end Go.Mp
end
section
set_option maxRecDepth 100000
namespace Go.Mp
open Go Go.Vc Go.Sp Go.Proofs Go.Kc
variable {E:Env} {L:List Asn} {w W:World}
theorem aIb (n:Int):IntKind.i64.wrap n % 18446744073709551616=n % 18446744073709551616:=by
 unfold IntKind.wrap
 simp only [IntKind.signed,IntKind.bits,Bool.true_and]
 split<;>omega
theorem aG4 (n:Int):andI .i64 n 1099511627775=n % 1099511627776:=by
 have h1:((BitVec.ofInt 64 n &&& BitVec.ofInt 64 1099511627775).toNat:Int)=n % 1099511627776:=by
  rw [BitVec.toNat_and]
  have e1:(BitVec.ofInt 64 1099511627775).toNat=2 ^ 40 - 1:=by decide
  have e2:((BitVec.ofInt 64 n).toNat:Int)=n % 18446744073709551616:=by
   rw [BitVec.toNat_ofInt]
   have:(n % ((2:Nat) ^ 64:Nat))=n % 18446744073709551616:=rfl
   omega
  rw [e1,Nat.and_two_pow_sub_one_eq_mod]
  generalize (BitVec.ofInt 64 n).toNat=m at*
  have:((m % 2 ^ 40:Nat):Int)=(m:Int) % 1099511627776:=by omega
  rw [this,e2];omega
 show IntKind.i64.wrap ((BitVec.ofInt 64 n &&& BitVec.ofInt 64 1099511627775).toNat:Int)=_
 rw [h1];exact w64 (by omega) (by omega)
structure LRow where
 clock:Int
 back:Int
def LRow.vs (r:LRow):List Value:= [.int .i64 r.clock,.int .i64 r.back]
theorem LRow.vs2 (r:LRow):r.vs.length=2:=rfl
def logA (b:Nat) (l:List Int):Asn:=exA fun R:List LRow=>pur (R.map LRow.clock=l/\l.length=64) (blk b (recs LRow.vs R))
theorem logA.get {b:Nat} {l:List Int} (h:Sep E (logA b l::L) w):∃ R:List LRow,R.map LRow.clock=l/\l.length=64/\R.length=64/\Sep E (blk b (recs LRow.vs R)::L) w:=by
 obtain ⟨R,h⟩:=Sep.ex.1 h
 obtain ⟨hn,h⟩:=Sep.pur.1 h
 exact ⟨R,hn.1,hn.2,by have:=hn.2;rw [<- hn.1,List.length_map] at this;exact this,h⟩
theorem logA.mk {b:Nat} {l:List Int} {R:List LRow} (h1:R.map LRow.clock=l) (h2:l.length=64) (h:Sep E (blk b (recs LRow.vs R)::L) w):Sep E (logA b l::L) w:=Sep.ex.2 ⟨R,Sep.pur.2 ⟨⟨h1,h2⟩,h⟩⟩
theorem aCD (h:Sep E L w):Calls P aiA #[] w (Ret fun v w'=>∃ p,v= .pointer (some ⟨p,0,none⟩)/\Sep E (logA p (List.replicate 64 0)::L) w'):=by
 apply aAs
 unfold apQ
 exact Al.i h (fun p w1 h1=>⟨p,rfl,logA.mk (R:=List.replicate 64 ⟨0,0⟩) rfl rfl h1⟩)
theorem auY (g:Int) (w:World):Calls P afp #[.int .i64 g] w (Ret fun v w'=>v= .bool (isG g)/\w'=w):=by
 apply axd
 unfold ank isG
 exact bLe (fun h=>⟨by rw [decide_eq_true h];rfl,rfl⟩) (fun h=>⟨by rw [decide_eq_false (by omega)];rfl,rfl⟩)
theorem aAZ (h:Sep E L w):Calls P agI #[] w (Ret fun v w'=>∃ p,v= .slice (some ⟨p,0,none⟩) 3 3/\Sep E (blk p (intL (ints [1,8,40]))::L) w'):=by
 apply avC
 exact Al.i h (fun p w1 h1=>⟨p,rfl,h1⟩)
theorem awm {g:Int} (hg:isG g=true) (c:Int) (h:Sep E L w):Calls P akl #[.int .i64 g,.int .i64 c] w (Ret fun v w'=>v= .int .u64 (if c<0 then 0 else aoE g c)/\Sep E L w'):=by
 apply ayl
 unfold aoB
 refine bLt (fun hh=>⟨by rw [if_pos hh],h⟩) (fun hh=>use (aAZ h) ?_)
 rintro _ w1 ⟨p,rfl,h1⟩
 obtain ⟨n,rfl⟩:∃ n:Nat,g=n:=⟨g.toNat,by have:=abP.1 hg;omega⟩
 have hgn:=(abP.1 hg).2
 obtain ⟨m,hm⟩:∃ m:Nat,c % 1099511627776=m:=⟨(c % 1099511627776).toNat,by omega⟩
 have hmlt:m<1099511627776:=by omega
 refine ⟨⟨some ⟨p,0,none⟩,3,3⟩,rfl,Al.i h1 (fun q w2 h2=> ?_)⟩
 rw [aG4,hm] at h2
 have h2:Sep E (blk q (intL (ints [1,n,m]))::blk p (intL (ints [1,8,40]))::L) w2:=h2
 refine use (aH3 (s:=⟨some ⟨p,0,none⟩,3,3⟩) (t:=⟨some ⟨q,0,none⟩,3,3⟩) (ws:= [1,8,40]) (vs:= [1,n,m]) (Ints.blk_ (b:=p) (c:=3) (gs:=ints [1,8,40]) (q:=1) rfl) (Ints.blk_ (b:=q) (c:=3) (gs:=ints [1,n,m]) (q:=0) rfl) (by decide) (by decide) (by decide) rfl (fun u hu=>by simp at hu;omega) h2) ?_
 rintro _ w3 ⟨hv,rfl⟩
 rcases hv with ⟨_,rfl⟩ | ⟨hno,rfl⟩
 ·refine ⟨_,_,rfl,?_,h2.tail.tail⟩
  rw [if_neg (by omega)]
  unfold aoE top
  rw [hm]
  congr 1
  simp only [afb]
  omega
 ·exfalso
  apply hno
  intro k y u hy hu
  match k,hy,hu with
  | 0,hy,hu=>simp at hy hu;subst hy hu;decide
  | 1,hy,hu=>simp at hy hu;subst hy hu;omega
  | 2,hy,hu=>simp at hy hu;subst hy hu;omega
  | k+3,hy,_=>simp at hy
theorem aE0 {x:Nat} (hx:x<18446744073709551616) (h:Sep E L w):Calls P ah0 #[.int .u64 (x:Nat)] w (Ret fun v w'=>v= .tuple #[.int .i64 (abU x).1,.int .i64 (abU x).2.1,.bool (abU x).2.2]/\Sep E L w'):=by
 apply ayk
 unfold aoA
 refine use (aAZ h) ?_
 rintro _ w1 ⟨p,rfl,h1⟩
 refine ⟨⟨some ⟨p,0,none⟩,3,3⟩,rfl,use (aGm (s:=⟨some ⟨p,0,none⟩,3,3⟩) (ws:= [1,8,40]) (Ints.blk_ (b:=p) (c:=3) (gs:=ints [1,8,40]) (q:=0) rfl) (by decide) (by decide) (by decide) hx h1) ?_⟩
 have hs:sumN [1,8,40]=49:=rfl
 rw [hs]
 rintro _ w2 (⟨h0,t,rfl,ht,h2⟩ | ⟨h0,rfl,h2⟩)
 ·have hlt:x<562949953421312:=by omega
  have hn:t.n=(ints (fields [1,8,40] x)).length:=by rw [ht];rfl
  have hlen3:((ints (fields [1,8,40] x)).length:Int)=3:=rfl
  refine ⟨t,_,rfl,fun w'=>w'=w2/\x % 2=1,bF rfl ?_,?_⟩
  ·refine elI 0 h2 rfl hn (by decide) (by omega) (fun a ha=>⟨_,ha,?_⟩)
   show bif (((x % 2 ^ 1:Nat):Int) !=1) then _ else _
   refine bNe (fun hne=> ?_) (fun he=>⟨rfl,by omega⟩)
   have e:abU (x:Int)=(0,0,false):=by unfold abU;rw [if_neg (by omega)]
   rw [e];exact ⟨rfl,h2.tail.tail⟩
  ·rintro _ w3 ⟨rfl,h1'⟩
   refine Dr.i h2 (fun w4 h4=>elI 0 h4 rfl hn (by decide) (by omega) (fun a ha=>⟨_,ha,elI 0 h4 rfl hn (by decide) (by omega) (fun a2 ha2=>⟨_,ha2,?_,h4.tail.tail⟩)⟩))
   have e:abU (x:Int)=((x:Int) / 2 % 256,(x:Int) / 512,true):=by unfold abU top;rw [if_pos (by omega)]
   rw [e]
   show Value.tuple #[.int .i64 ((x / 2 ^ 1 % 2 ^ 8:Nat):Int),.int .i64 ((x / 2 ^ 1 / 2 ^ 8 % 2 ^ 40:Nat):Int),.bool true]=_
   rw [show ((x / 2 ^ 1 % 2 ^ 8:Nat):Int)=(x:Int) / 2 % 256 by omega,show ((x / 2 ^ 1 / 2 ^ 8 % 2 ^ 40:Nat):Int)=(x:Int) / 512 by omega]
 ·refine ⟨⟨none,0,0⟩,_,rfl,fun _=>False,bT rfl ?_,fun _ w3 hf=>hf.elim⟩
  have e:abU (x:Int)=(0,0,false):=by unfold abU top;rw [if_neg (by omega)]
  rw [e];exact ⟨rfl,h2.tail⟩
theorem aD4 {x:Nat} (hx:x<18446744073709551616) (c:Int) (h:Sep E L w):Calls P ahz #[.int .u64 (x:Nat),.int .i64 c] w (Ret fun v w'=>v= .int .i64 (if (abU x).2.2=false\/c<0 then -1 else (c - (abU x).2.1) % top)/\Sep E L w'):=by
 apply ar0
 unfold aln
 refine use (aE0 hx h) ?_
 rintro _ w1 ⟨rfl,h1⟩
 refine ⟨_,_,_,rfl,?_⟩
 cases hl:(abU (x:Int)).2.2 with
 | false=>exact bifT ⟨by rw [if_pos (.inl rfl)],h1⟩
 | true=>
  refine bifF (bLt (fun hh=>⟨by rw [if_pos (.inr hh)],h1⟩) (fun hh=>⟨?_,h1⟩))
  rw [if_neg (by rintro (e | e);cases e;omega),aG4]
  have:=aIb (c - (abU (x:Int)).2.1)
  unfold top
  congr 1
  omega
theorem aE3 {x:Nat} (hx:x<18446744073709551616) (c r:Int) (h:Sep E L w):Calls P aih #[.int .u64 (x:Nat),.int .i64 c,.int .i64 r] w (Ret fun v w'=>v= .bool ((abU x).2.2&&decide (0<=c)&&decide ((c - (abU x).2.1) % top<=r))/\Sep E L w'):=by
 apply atX
 unfold alP
 refine use (aD4 hx c h) ?_
 rintro _ w1 ⟨rfl,h1⟩
 refine ⟨_,rfl,?_⟩
 by_cases hb:(abU (x:Int)).2.2=false\/c<0
 ·rw [if_pos hb]
  refine bLe (fun hh=>absurd hh (by decide)) (fun _=>⟨?_,h1⟩)
  rcases hb with hb | hb
  ·rw [hb];rfl
  ·rw [decide_eq_false (show ¬ 0<=c by omega),Bool.and_false];rfl
 ·rw [if_neg hb]
  have h0:0<=(c - (abU (x:Int)).2.1) % top:=Int.emod_nonneg _ (by decide)
  refine bLe (fun _=>⟨?_,h1⟩) (fun hh=>absurd hh (by omega))
  have h2:(abU (x:Int)).2.2=true:=by cases hh:(abU (x:Int)).2.2 with | true=>rfl | false=>exact absurd (.inl hh) hb
  rw [h2,decide_eq_true (show 0<=c by omega)];rfl
variable {b:Nat} {l:List Int}
theorem aHc {R:List LRow} {F:World ->Prop} (h:Sep E (blk b (recs LRow.vs R)::L) w) {k j:Nat} {r r':LRow} {v:Value} (hr:R[k]? =some r) (hj:j<2) (hr':r'.vs=r.vs.set j v) (kk:∀ w1,Sep E (blk b (recs LRow.vs (R.set k r'))::L) w1 ->F w1):St ((⟨b,k*2,none⟩:Addr).add j) v F w:=by
 have hlt:=(List.getElem?_eq_some_iff.1 hr).1
 rw [aad]
 refine St.i h ?_ (fun w1 h1=>kk w1 ?_)
 ·rw [ag5 LRow.vs2]
  have:(k+1)*2<=R.length*2:=Nat.mul_le_mul_right _ hlt
  omega
 ·rw [avM LRow.vs2 hr hj hr'] at h1;exact h1
theorem aFA {R:List LRow} (h1:R.map LRow.clock=l) {k:Nat} {r:LRow} (hr:R[k]? =some r):l.getD k 0=r.clock:=by
 rw [<- h1,List.getD_eq_getElem?_getD,List.getElem?_map,hr];rfl
theorem aH4 (h:Sep E (logA b l::L) w) (g:Int):Calls P ahB #[.pointer (some ⟨b,0,none⟩),.int .i64 g] w (Ret fun v w'=>v= .int .u64 (went l g).2/\Sep E (logA b (went l g).1::L) w'):=by
 apply ar2
 unfold alp
 refine use (auY g w) ?_
 rintro _ w1 ⟨rfl,rfl⟩
 refine ⟨_,rfl,?_⟩
 unfold went
 cases hg:isG g with
 | false=>exact bifT ⟨rfl,h⟩
 | true=>
  have hgg:=abP.1 hg
  obtain ⟨R,hR,hl,hlen,h1⟩:=logA.get h
  refine bifF ⟨_,rfl,ags (q:=0) LRow.vs2 h1 rfl hlen hgg.1 (by exact_mod_cast hgg.2) (fun r hr hc=>⟨_,by rw [aad];exact hc 0 _ rfl,use (awm hg r.clock h1) ?_⟩)⟩
  rintro _ w2 ⟨rfl,h2⟩
  refine ⟨_,rfl,Dr.i h2 (fun w3 h3=>⟨_,rfl,ags (q:=0) LRow.vs2 h3 rfl hlen hgg.1 (by exact_mod_cast hgg.2) (fun r2 hr2 hc2=> ?_)⟩)⟩
  rw [hr] at hr2
  have:=Option.some.inj hr2
  subst this
  refine ⟨_,by rw [aad];exact hc2 0 _ rfl,_,rfl,ags (q:=0) LRow.vs2 h3 rfl hlen hgg.1 (by exact_mod_cast hgg.2) (fun r2 hr2 hc2=> ?_)⟩
  refine aHc (r':=⟨IntKind.i64.wrap (r.clock+1),r.back⟩) h3 hr (by decide) rfl (fun w4 h4=> ?_)
  have e:ajp l g=r.clock:=aFA hR hr
  rw [e]
  refine ⟨rfl,logA.mk ?_ (by rw [if_neg (by decide)];simpa using hl) h4⟩
  rw [List.map_set,hR];rfl
theorem aH0 (h:Sep E (logA b l::L) w) {x:Nat} (hx:x<18446744073709551616) (o r:Int):Calls P ahA #[.pointer (some ⟨b,0,none⟩),.int .u64 (x:Nat),.int .i64 o,.int .i64 r] w (Ret fun v w'=>v= .bool (came l x r)/\Sep E (logA b l::L) w'):=by
 apply ar1
 unfold alo
 refine use (aE0 hx h) ?_
 rintro _ w1 ⟨rfl,h1⟩
 refine ⟨_,_,_,rfl,?_⟩
 unfold came
 refine ⟨fun w'=>((abU (x:Int)).2.2&&isG (abU (x:Int)).1&&decide (0<=ajp l (abU (x:Int)).1)&&decide ((ajp l (abU (x:Int)).1 - (abU (x:Int)).2.1) % top<=r))=true/\Sep E (logA b l::L) w',?_,?_⟩
 ·cases hl:(abU (x:Int)).2.2 with
  | false=>exact bifT ⟨rfl,h1⟩
  | true=>
   refine bifF (use (auY _ w1) ?_)
   rintro _ w2 ⟨rfl,rfl⟩
   refine ⟨_,rfl,?_⟩
   cases hg:isG (abU (x:Int)).1 with
   | false=>exact bifT ⟨rfl,h1⟩
   | true=>
    have hgg:=abP.1 hg
    obtain ⟨R,hR,hll,hlen,h3⟩:=logA.get h1
    refine bifF ⟨_,rfl,ags (q:=0) LRow.vs2 h3 rfl hlen hgg.1 (by exact_mod_cast hgg.2) (fun rr hr hc=>⟨_,by rw [aad];exact hc 0 _ rfl,use (aE3 hx rr.clock r h1) ?_⟩)⟩
    rintro _ w3 ⟨rfl,h4⟩
    have e:ajp l (abU (x:Int)).1=rr.clock:=aFA hR hr
    rw [e,hl]
    refine ⟨_,rfl,?_⟩
    simp only [Bool.true_and]
    cases hb:(decide (0<=rr.clock)&&decide ((rr.clock - (abU (x:Int)).2.1) % top<=r)) with
    | false=>exact bifT ⟨rfl,h4⟩
    | true=>exact bifF ⟨rfl,h4⟩
 ·rintro _ w2 ⟨hb,h2⟩
  rw [hb]
  refine use (auY o w2) ?_
  rintro _ w3 ⟨rfl,rfl⟩
  refine ⟨_,rfl,?_⟩
  cases hg:isG o with
  | false=>exact bifF ⟨rfl,h2⟩
  | true=>
   have hgg:=abP.1 hg
   refine bifT (Dr.i h2 (fun w4 h4=> ?_))
   obtain ⟨R,hR,hll,hlen,h5⟩:=logA.get h4
   refine ⟨_,rfl,ags (q:=0) LRow.vs2 h5 rfl hlen hgg.1 (by exact_mod_cast hgg.2) (fun rr hr hc=>⟨_,by rw [aad];exact hc 1 _ rfl,_,rfl,ags (q:=0) LRow.vs2 h5 rfl hlen hgg.1 (by exact_mod_cast hgg.2) (fun r2 hr2 hc2=> ?_)⟩)⟩
   refine aHc (r':=⟨rr.clock,IntKind.i64.wrap (rr.back+1)⟩) h5 hr (by decide) rfl (fun w6 h6=>⟨rfl,logA.mk ?_ hll h6⟩)
   rw [List.map_set,hR]
   show l.set o.toNat rr.clock=l
   apply List.ext_getElem?
   intro i
   by_cases hi:o.toNat=i
   ·subst hi
    have:l[o.toNat]? =some rr.clock:=by rw [<- hR,List.getElem?_map,hr];rfl
    rw [List.getElem?_set_self (List.getElem?_eq_some_iff.1 this).1,this]
   ·rw [List.getElem?_set_ne hi]
end Go.Mp
end
section
set_option maxRecDepth 100000
namespace Go.Mp
open Go Go.Vc Go.Sp Go.Kc
open By
variable {E:Env} {L:List Asn} {w:World}
def BSt (s n:Nat) (X:List UInt8):Asn:=
 exA fun bl:Nat=>pur (X.length=16*n/\n<=1024) (star (blk s [.slice (some ⟨bl,0,none⟩) n n]) (blk bl (u8s X)))
theorem BSt.open {s n:Nat} {X:List UInt8} (h:Sep E (BSt s n X::L) w):
  ∃ bl:Nat,X.length=16*n/\n<=1024/\Sep E (blk s [.slice (some ⟨bl,0,none⟩) n n]::blk bl (u8s X)::L) w:=by
 obtain ⟨bl,h⟩:=Sep.ex.1 h
 obtain ⟨⟨h1,h2⟩,h⟩:=Sep.pur.1 h
 exact ⟨bl,h1,h2,Sep.star.1 h⟩
theorem BSt.shut {s n bl:Nat} {X:List UInt8} (h1:X.length=16*n) (h2:n<=1024) (h:Sep E (blk s [.slice (some ⟨bl,0,none⟩) n n]::blk bl (u8s X)::L) w):Sep E (BSt s n X::L) w:=
 Sep.ex.2 ⟨bl,Sep.pur.2 ⟨⟨h1,h2⟩,Sep.star.2 h⟩⟩
theorem ajc {s n bl:Nat} {X:List UInt8} (i:Int) (h:Sep E (blk s [.slice (some ⟨bl,0,none⟩) n n]::blk bl (u8s X)::L) w):
  Calls P acF #[.pointer (some ⟨s,0,none⟩),.int .i64 i] w (Ret fun v w'=>w'=w/\v= .pointer (if pg n i then some ⟨bl,16*i.toNat,none⟩ else none)):=by
 apply atC
 unfold alE
 refine bifI (fun hc=> ?_) (fun hc=> ?_)
 ·simp only [decide_eq_true_eq] at hc
  exact ⟨rfl,by rw [if_neg (fun hh=>by have:=hh.1;omega)]⟩
 ·simp only [decide_eq_false_iff_not] at hc
  refine ⟨_,rfl,⟨_,_,_⟩,(h.cell _).trans rfl,?_⟩
  refine bifI (fun hc2=> ?_) (fun hc2=> ?_)
  ·simp only [decide_eq_true_eq] at hc2
   exact ⟨rfl,by rw [if_neg (fun hh=>by have:=hh.2;omega)]⟩
  ·simp only [decide_eq_false_iff_not] at hc2
   refine ⟨_,rfl,⟨_,_,_⟩,(h.cell _).trans rfl,_,rfl,⟨by omega,by dsimp only;omega⟩,rfl,?_⟩
   rw [if_pos ⟨by omega,by omega⟩,aad,Nat.mul_comm,Nat.zero_add]
theorem aHF {n:Int} :min1 (max1 n 0) 1024=((min (max n 0).toNat 1024:Nat):Int):=by
 unfold min1 max1;split<;>split<;>omega
theorem aCA (n:Int) (h:Sep E L w):
  Calls P amu #[.int .i64 n] w (Ret fun v w'=>∃ s,v= .pointer (some ⟨s,0,none⟩)/\Sep E (BSt s (min (max n 0).toNat 1024) (List.replicate (16*min (max n 0).toNat 1024) 0)::L) w'):=by
 apply aBN
 unfold asj
 rw [aHF]
 generalize hm:min (max n 0).toNat 1024=m
 have hm':m<=1024:=by omega
 refine makeBytes.i h (m:=16) (sz:=16) (by_:=16) (by kernel_rfl) (by omega) (by omega) (by omega) (by omega) (fun b w1 h1=> ?_)
 refine Al.i h1 (fun s w2 h2=> ?_)
 refine ⟨s,rfl,BSt.shut (bl:=b) (by simp) hm' ?_⟩
 simp only [Int.toNat_natCast] at h2
 rw [Nat.mul_comm] at h2
 exact h2
theorem cvB (l:List UInt8) {b o n c q:Nat} {C:List Value} (h:Sep E L w) (hi:L[q]? =some (blk b C)) (hn:l.length=n) (hc:∀ j (hj:j<l.length),C[o+j]? =some (.int .u8 (l[j].toNat:Int))):
  CvV P aiv asE (.slice (some ⟨b,o,none⟩) n c) w (.string ⟨l.toArray⟩):=by
 intro w' g
 obtain ⟨e,q1,q2⟩:=aAQ (P:=P) (t:=aiv) (by kernel_rfl)
 subst hn
 exact run_convert_bytes_back (P:=P) w' aiv asE e ⟨b,o,none⟩ c l q1 q2 (by kernel_rfl) (fun i hi'=>by rw [aad,(h.grow g).cellAt q hi];exact hc i hi')
theorem arl {s n:Nat} {X:List UInt8} (i:Int) (h:Sep E (BSt s n X::L) w):
  Calls P ae1 #[.pointer (some ⟨s,0,none⟩),.int .i64 i] w (Ret fun v w'=>w'=w/\v= .tuple #[.string (⟨(By.rd n X i).1.toArray⟩:ByteArray),.int .i64 (By.rd n X i).2]):=by
 obtain ⟨bl,h1,h2,h⟩:=BSt.open h
 apply aqn
 unfold ajS
 refine use (ajc i h) ?_
 rintro _ w1 ⟨rfl,rfl⟩
 refine ⟨_,rfl,?_⟩
 by_cases hi:pg n i
 ·rw [if_pos hi]
  refine ⟨_,rfl,?_⟩
  have hr:By.rd n X i=(pgAt X i,0):=if_pos hi
  rw [hr]
  refine ⟨_,cvB (pgAt X i) (q:=1) h rfl (aeJ h1 hi) (fun j hj=> ?_),rfl,rfl⟩
  have hj':=hj
  rw [aeJ h1 hi] at hj'
  rw [aoH,<- aaV hj',List.getElem?_eq_getElem hj];rfl
 ·rw [if_neg hi]
  have hr:By.rd n X i=([],1):=if_neg hi
  rw [hr]
  exact ⟨rfl,rfl⟩
theorem aAR (t:ByteArray):byteCells t=u8s t.data.toList:=rfl
theorem apL {s n:Nat} {X:List UInt8} (i:Int) (t:ByteArray) (h:Sep E (BSt s n X::L) w):
  Calls P aeC #[.pointer (some ⟨s,0,none⟩),.int .i64 i,.string t] w (Ret fun v w'=>v= .int .i64 (wr n X i t.data.toList).2/\Sep E (BSt s n (wr n X i t.data.toList).1::L) w'):=by
 have h0:=h
 obtain ⟨bl,h1,h2,h⟩:=BSt.open h
 apply apn
 unfold ajy
 refine use (ajc i h) ?_
 rintro _ w1 ⟨rfl,rfl⟩
 refine ⟨_,rfl,?_⟩
 have hsz:t.data.toList.length=t.size:=rfl
 by_cases hi:pg n i
 ·rw [if_pos hi]
  refine bifF (bifI (fun hc=> ?_) (fun hc=> ?_))
  ·simp only [bne_iff_ne,ne_eq] at hc
   have:¬ (pg n i/\t.data.toList.length=16):=fun hh=>by have:=hh.2;omega
   have hr:wr n X i t.data.toList=(X,1):=if_neg this
   rw [hr]
   exact ⟨rfl,h0⟩
  ·simp only [bne_eq_false_iff_eq] at hc
   have hr:wr n X i t.data.toList=(wrAt X i t.data.toList,0):=if_pos ⟨hi,by omega⟩
   rw [hr]
   refine ⟨_,rfl,?_⟩
   have hx:=hi.1
   have hy:=hi.2
   refine copyStr.i h.swap (by_:=1) (zs:= [.int .u8 0]) (by kernel_rfl) (by omega) (by simp;omega) (fun w1 h3=> ?_)
   rw [aAR,aDT h1 hi (by omega)] at h3
   exact ⟨rfl,BSt.shut (anW h1 hi (by omega)) h2 h3.swap⟩
 ·rw [if_neg hi]
  have hr:wr n X i t.data.toList=(X,1):=if_neg (fun hh=>hi hh.1)
  rw [hr]
  exact ⟨rfl,h0⟩
theorem bB {n i:Int} {A B:Prop} (h1:n<i ->A) (h2:i<=n ->B):bif decide (n<i) then A else B:=
 bifI (fun h=>h1 (by simpa using h)) (fun h=>h2 (by simpa using h))
theorem bG {n i:Int} {A B:Prop} (h1:i<=n ->A) (h2:n<i ->B):bif decide (n≥i) then A else B:=
 bifI (fun h=>h1 (by simpa using h)) (fun h=>h2 (by simpa using h))
theorem bGt {n i:Int} {A B:Prop} (h1:i<n ->A) (h2:n<=i ->B):bif decide (n>i) then A else B:=
 bifI (fun h=>h1 (by simpa using h)) (fun h=>h2 (by simpa using h))
theorem bNe {n i:Int} {A B:Prop} (h1:n≠i ->A) (h2:n=i ->B):bif (n !=i) then A else B:=
 bifI (fun h=>h1 (by simpa using h)) (fun h=>h2 (by simpa using h))
theorem aCz {s n:Nat} {X:List UInt8} (i a:Int) (h:Sep E (BSt s n X::L) w):
  Calls P ahu #[.pointer (some ⟨s,0,none⟩),.int .i64 i,.int .i64 a] w (Ret fun v w'=>w'=w/\v= .tuple #[.int .u8 (gt n X i a).1.toNat,.int .i64 (gt n X i a).2]):=by
 obtain ⟨bl,h1,h2,h⟩:=BSt.open h
 apply arD
 unfold ak7
 refine use (ajc i h) ?_
 rintro _ w1 ⟨rfl,rfl⟩
 refine ⟨_,rfl,?_⟩
 by_cases hi:pg n i
 ·rw [if_pos hi]
  obtain ⟨hx,hy⟩:=hi
  refine bifF (bB (fun hc=> ?_) (fun hc=>bG (fun hc2=> ?_) (fun hc2=> ?_)))
  ·have hr:gt n X i a=(0,1):=if_neg (by omega)
   rw [hr];exact ⟨rfl,rfl⟩
  ·have hr:gt n X i a=(0,1):=if_neg (by omega)
   rw [hr];exact ⟨rfl,rfl⟩
  ·have hr:gt n X i a=(X.getD (16*i.toNat+a.toNat) 0,0):=if_pos ⟨⟨hx,hy⟩,hc,hc2⟩
   rw [hr]
   have hlt:16*i.toNat+a.toNat<X.length:=by omega
   refine ⟨_,rfl,_,rfl,⟨hc,hc2⟩,(X[16*i.toNat+a.toNat].toNat:Int),?_,rfl,?_⟩
   ·rw [aad,h.cellAt 1 rfl,aoH,Nat.mul_one,List.getElem?_eq_getElem hlt];rfl
   ·simp [List.getD,hlt]
 ·rw [if_neg hi]
  have hr:gt n X i a=(0,1):=if_neg (fun hh=>hi hh.1)
  rw [hr]
  exact ⟨rfl,rfl⟩
theorem aHO (X:List UInt8) (k:Nat) (b:UInt8):(u8s X).set k (.int .u8 b.toNat)=u8s (X.set k b):=by simp [u8s,List.map_set]
theorem aCB {s n:Nat} {X:List UInt8} (i a:Int) (b:UInt8) (h:Sep E (BSt s n X::L) w):
  Calls P ahv #[.pointer (some ⟨s,0,none⟩),.int .i64 i,.int .i64 a,.int .u8 b.toNat] w (Ret fun v w'=>v= .int .i64 (pt n X i a b).2/\Sep E (BSt s n (pt n X i a b).1::L) w'):=by
 have h0:=h
 obtain ⟨bl,h1,h2,h⟩:=BSt.open h
 apply arE
 unfold ak8
 refine use (ajc i h) ?_
 rintro _ w1 ⟨rfl,rfl⟩
 refine ⟨_,rfl,?_⟩
 by_cases hi:pg n i
 ·rw [if_pos hi]
  obtain ⟨hx,hy⟩:=hi
  refine bifF (bB (fun hc=> ?_) (fun hc=>bG (fun hc2=> ?_) (fun hc2=> ?_)))
  ·have hr:pt n X i a b=(X,1):=if_neg (by omega)
   rw [hr];exact ⟨rfl,h0⟩
  ·have hr:pt n X i a b=(X,1):=if_neg (by omega)
   rw [hr];exact ⟨rfl,h0⟩
  ·have hr:pt n X i a b=(X.set (16*i.toNat+a.toNat) b,0):=if_pos ⟨⟨hx,hy⟩,hc,hc2⟩
   rw [hr]
   refine ⟨_,rfl,_,rfl,⟨hc,hc2⟩,?_⟩
   rw [aad,Nat.mul_one]
   refine St.i h.swap (by simp;omega) (fun w1 h3=>⟨rfl,?_⟩)
   rw [aHO] at h3
   exact BSt.shut (by simpa using h1) h2 h3.swap
 ·rw [if_neg hi]
  have hr:pt n X i a b=(X,1):=if_neg (fun hh=>hi hh.1)
  rw [hr]
  exact ⟨rfl,h0⟩
theorem azh {s n:Nat} {X:List UInt8} (i:Int) (h:Sep E (BSt s n X::L) w):
  Calls P agw #[.pointer (some ⟨s,0,none⟩),.int .i64 i] w (Ret fun v w'=>v= .int .i64 (cl n X i).2/\Sep E (BSt s n (cl n X i).1::L) w'):=by
 have h0:=h
 obtain ⟨bl,h1,h2,h⟩:=BSt.open h
 apply apm
 unfold ajx
 refine use (ajc i h) ?_
 rintro _ w1 ⟨rfl,rfl⟩
 refine ⟨_,rfl,?_⟩
 by_cases hi:pg n i
 ·rw [if_pos hi]
  have hr:cl n X i=(wrAt X i zs,0):=if_pos ⟨hi,rfl⟩
  rw [hr]
  have hx:=hi.1
  have hy:=hi.2
  refine bifF ⟨_,rfl,?_⟩
  refine axx.i (List.replicate 16 0) h.swap rfl rfl (by simp;omega) (fun w1 h3=>⟨rfl,?_⟩)
  have:(List.replicate 16 (0:Int)).map (Value.int .u8)=u8s zs:=rfl
  rw [this,aDT h1 hi rfl] at h3
  exact BSt.shut (anW h1 hi rfl) h2 h3.swap
 ·rw [if_neg hi]
  have hr:cl n X i=(X,1):=if_neg (fun hh=>hi hh.1)
  rw [hr]
  exact ⟨rfl,h0⟩
end Go.Mp
end
section
namespace Go.Proofs
open Go.Shelf
def Tryz.keysA_ren:Go.Shelf.Ren:=⟨fun | 7=>166 | 10=>242 | n=>n,fun | 23=>181 | 26=>3 | 3=>195 | 28=>225 | 0=>0 | 27=>152 | 33=>33 | 4=>4 | n=>n,fun | n=>n⟩
theorem Tryz.keysA:Go.Proofs.SlLaysZI.n7 Tryz.prog Tryz.keysA_ren:= {
 mixed:=by kernel_rfl
 f7:=⟨Tryz.f166.name,by decide,Tryz.func166.trans (congrArg some (by kernel_rfl))⟩
 f10:=⟨Tryz.f242.name,by decide,Tryz.func242.trans (congrArg some (by kernel_rfl))⟩
 t0:=Tryz.underlying0
 a0:=Tryz.isAgg0
 z0:=Tryz.sizeOf0
 v0:=Tryz.zeroValue0
 t4:=Tryz.underlying4
 a4:=Tryz.isAgg4
 z4:=Tryz.sizeOf4
 v4:=Tryz.zeroValue4
 t23:=Tryz.underlying181
 a23:=Tryz.isAgg181
 z23:=Tryz.sizeOf181
 v23:=Tryz.zeroValue181
 t26:=Tryz.underlying3
 a26:=Tryz.isAgg3
 z26:=Tryz.sizeOf3
 v26:=Tryz.zeroValue3
 t27:=Tryz.underlying152
 a27:=Tryz.isAgg152
 z27:=Tryz.sizeOf152
 v27:=Tryz.zeroValue152
 t28:=Tryz.underlying225
 a28:=Tryz.isAgg225
 z28:=Tryz.sizeOf225
 v28:=Tryz.zeroValue225
 t33:=Tryz.underlying33
 a33:=Tryz.isAgg33
 z33:=Tryz.sizeOf33
 v33:=Tryz.zeroValue33}
def Tryz.keysA1_ren:Go.Shelf.Ren:=⟨fun | 7=>215 | 10=>265 | n=>n,fun | 23=>173 | 26=>3 | 3=>188 | 28=>225 | 0=>0 | 27=>152 | 33=>33 | 4=>4 | n=>n,fun | n=>n⟩
theorem Tryz.keysA1:Go.Proofs.SlLaysZI.n7 Tryz.prog Tryz.keysA1_ren:= {
 mixed:=by kernel_rfl
 f7:=⟨Tryz.f215.name,by decide,Tryz.func215.trans (congrArg some (by kernel_rfl))⟩
 f10:=⟨Tryz.f265.name,by decide,Tryz.func265.trans (congrArg some (by kernel_rfl))⟩
 t0:=Tryz.underlying0
 a0:=Tryz.isAgg0
 z0:=Tryz.sizeOf0
 v0:=Tryz.zeroValue0
 t4:=Tryz.underlying4
 a4:=Tryz.isAgg4
 z4:=Tryz.sizeOf4
 v4:=Tryz.zeroValue4
 t23:=Tryz.underlying173
 a23:=Tryz.isAgg173
 z23:=Tryz.sizeOf173
 v23:=Tryz.zeroValue173
 t26:=Tryz.underlying3
 a26:=Tryz.isAgg3
 z26:=Tryz.sizeOf3
 v26:=Tryz.zeroValue3
 t27:=Tryz.underlying152
 a27:=Tryz.isAgg152
 z27:=Tryz.sizeOf152
 v27:=Tryz.zeroValue152
 t28:=Tryz.underlying225
 a28:=Tryz.isAgg225
 z28:=Tryz.sizeOf225
 v28:=Tryz.zeroValue225
 t33:=Tryz.underlying33
 a33:=Tryz.isAgg33
 z33:=Tryz.sizeOf33
 v33:=Tryz.zeroValue33}
def Tryz.sortedA_ren:Go.Shelf.Ren:=⟨fun | 6=>165 | 8=>104 | 9=>241 | 11=>177 | 13=>280 | 12=>279 | 23=>302 | 24=>290 | 14=>293 | 15=>294 | 16=>295 | 17=>296 | 18=>297 | 19=>298 | 20=>299 | 21=>300 | 22=>301 | 25=>306 | 26=>307 | 27=>308 | 28=>309 | 29=>310 | 30=>267 | 31=>313 | n=>n,fun | 26=>3 | 28=>225 | 24=>22 | 0=>0 | 3=>3 | 37=>285 | 48=>316 | 50=>141 | 4=>4 | 40=>310 | 39=>309 | 45=>122 | 5=>5 | 9=>9 | 51=>317 | 55=>321 | 57=>323 | 58=>69 | 33=>33 | n=>n,fun | n=>n⟩
theorem Tryz.sortedA:Go.Proofs.SlLaysZI.n6 Tryz.prog Tryz.sortedA_ren:= {
 mixed:=by kernel_rfl
 f6:=⟨Tryz.f165.name,by decide,Tryz.func165.trans (congrArg some (by kernel_rfl))⟩
 f8:=⟨Tryz.f104.name,by decide,Tryz.func104.trans (congrArg some (by kernel_rfl))⟩
 f11:=⟨Tryz.f177.name,by decide,Tryz.func177.trans (congrArg some (by kernel_rfl))⟩
 t0:=Tryz.underlying0
 a0:=Tryz.isAgg0
 z0:=Tryz.sizeOf0
 v0:=Tryz.zeroValue0
 t24:=Tryz.underlying22
 a24:=Tryz.isAgg22
 z24:=Tryz.sizeOf22
 v24:=Tryz.zeroValue22
 t26:=Tryz.underlying3
 a26:=Tryz.isAgg3
 z26:=Tryz.sizeOf3
 v26:=Tryz.zeroValue3
 t28:=Tryz.underlying225
 a28:=Tryz.isAgg225
 z28:=Tryz.sizeOf225
 v28:=Tryz.zeroValue225
 i26:=by kernel_rfl}
def Tryz.sortA_ren:Go.Shelf.Ren:=⟨fun | 5=>241 | 8=>280 | 7=>279 | 19=>302 | 20=>290 | 10=>293 | 11=>294 | 12=>295 | 13=>296 | 14=>297 | 15=>298 | 16=>299 | 17=>300 | 18=>301 | 30=>306 | 31=>307 | 32=>308 | 33=>309 | 34=>310 | 35=>267 | 40=>313 | n=>n,fun | 23=>22 | 25=>3 | 3=>3 | 32=>285 | 22=>22 | 0=>0 | 44=>316 | 46=>141 | 4=>4 | 36=>310 | 35=>309 | 41=>122 | 5=>5 | 9=>9 | 53=>317 | 57=>321 | 63=>323 | 64=>69 | n=>n,fun | n=>n⟩
theorem Tryz.sortA:Go.Proofs.SlLaysM.n5 Tryz.prog Tryz.sortA_ren:= {
 mixed:=by kernel_rfl
 f5:=⟨Tryz.f241.name,by decide,Tryz.func241.trans (congrArg some (by kernel_rfl))⟩
 f7:=⟨Tryz.f279.name,by decide,Tryz.func279.trans (congrArg some (by kernel_rfl))⟩
 f8:=Tryz.func280.trans (congrArg some (by kernel_rfl))
 f10:=⟨Tryz.f293.name,by decide,Tryz.func293.trans (congrArg some (by kernel_rfl))⟩
 f11:=⟨Tryz.f294.name,by decide,Tryz.func294.trans (congrArg some (by kernel_rfl))⟩
 f12:=⟨Tryz.f295.name,by decide,Tryz.func295.trans (congrArg some (by kernel_rfl))⟩
 f13:=⟨Tryz.f296.name,by decide,Tryz.func296.trans (congrArg some (by kernel_rfl))⟩
 f14:=⟨Tryz.f297.name,by decide,Tryz.func297.trans (congrArg some (by kernel_rfl))⟩
 f15:=⟨Tryz.f298.name,by decide,Tryz.func298.trans (congrArg some (by kernel_rfl))⟩
 f16:=⟨Tryz.f299.name,by decide,Tryz.func299.trans (congrArg some (by kernel_rfl))⟩
 f17:=⟨Tryz.f300.name,by decide,Tryz.func300.trans (congrArg some (by kernel_rfl))⟩
 f18:=⟨Tryz.f301.name,by decide,Tryz.func301.trans (congrArg some (by kernel_rfl))⟩
 f19:=Tryz.func302.trans (congrArg some (by kernel_rfl))
 f20:=Tryz.func290.trans (congrArg some (by kernel_rfl))
 f30:=⟨Tryz.f306.name,by decide,Tryz.func306.trans (congrArg some (by kernel_rfl))⟩
 f31:=Tryz.func307.trans (congrArg some (by kernel_rfl))
 f32:=Tryz.func308.trans (congrArg some (by kernel_rfl))
 f33:=⟨Tryz.f309.name,by decide,Tryz.func309.trans (congrArg some (by kernel_rfl))⟩
 f34:=⟨Tryz.f310.name,by decide,Tryz.func310.trans (congrArg some (by kernel_rfl))⟩
 f35:=⟨Tryz.f267.name,by decide,Tryz.func267.trans (congrArg some (by kernel_rfl))⟩
 f40:=⟨Tryz.f313.name,by decide,Tryz.func313.trans (congrArg some (by kernel_rfl))⟩
 t0:=Tryz.underlying0
 a0:=Tryz.isAgg0
 z0:=Tryz.sizeOf0
 v0:=Tryz.zeroValue0
 t3:=Tryz.underlying3
 a3:=Tryz.isAgg3
 z3:=Tryz.sizeOf3
 v3:=Tryz.zeroValue3
 t4:=Tryz.underlying4
 a4:=Tryz.isAgg4
 z4:=Tryz.sizeOf4
 v4:=Tryz.zeroValue4
 t5:=Tryz.underlying5
 a5:=Tryz.isAgg5
 z5:=Tryz.sizeOf5
 v5:=Tryz.zeroValue5
 t9:=Tryz.underlying9
 a9:=Tryz.isAgg9
 z9:=Tryz.sizeOf9
 v9:=Tryz.zeroValue9
 t22:=Tryz.underlying22
 a22:=Tryz.isAgg22
 z22:=Tryz.sizeOf22
 v22:=Tryz.zeroValue22
 t23:=Tryz.underlying22
 a23:=Tryz.isAgg22
 z23:=Tryz.sizeOf22
 v23:=Tryz.zeroValue22
 t25:=Tryz.underlying3
 a25:=Tryz.isAgg3
 z25:=Tryz.sizeOf3
 v25:=Tryz.zeroValue3
 t32:=Tryz.underlying285
 a32:=Tryz.isAgg285
 z32:=Tryz.sizeOf285
 v32:=Tryz.zeroValue285
 t35:=Tryz.underlying309
 a35:=Tryz.isAgg309
 z35:=Tryz.sizeOf309
 v35:=Tryz.zeroValue309
 t36:=Tryz.underlying310
 a36:=Tryz.isAgg310
 z36:=Tryz.sizeOf310
 v36:=Tryz.zeroValue310
 t41:=Tryz.underlying122
 a41:=Tryz.isAgg122
 z41:=Tryz.sizeOf122
 v41:=Tryz.zeroValue122
 t44:=Tryz.underlying316
 a44:=Tryz.isAgg316
 z44:=Tryz.sizeOf316
 v44:=Tryz.zeroValue316
 t46:=Tryz.underlying141
 a46:=Tryz.isAgg141
 z46:=Tryz.sizeOf141
 v46:=Tryz.zeroValue141
 t53:=Tryz.underlying317
 a53:=Tryz.isAgg317
 z53:=Tryz.sizeOf317
 v53:=Tryz.zeroValue317
 t57:=Tryz.underlying321
 a57:=Tryz.isAgg321
 z57:=Tryz.sizeOf321
 v57:=Tryz.zeroValue321
 t63:=Tryz.underlying323
 a63:=Tryz.isAgg323
 z63:=Tryz.sizeOf323
 v63:=Tryz.zeroValue323
 t64:=Tryz.underlying69
 a64:=Tryz.isAgg69
 z64:=Tryz.sizeOf69
 v64:=Tryz.zeroValue69}
end Go.Proofs
end
section
set_option maxRecDepth 100000
namespace Go.Mp
open Go Go.Vc Go.Sp Go.Proofs Go.Shelf
variable {E:Env} {L:List Asn} {w:World}
theorem aFZ (m:Nat):AnyZI.SortsIn P Tryz.sortedA_ren Fence.wide m:=
  ⟨fun blk off cap ss W hH hblk hsz=>callsIn_wide.2 (AnyM.slices_Sort_int Tryz.sortA blk off cap ss W hH hblk hsz),
   fun p cap W=>callsIn_wide.2 (AnyM.slices_Sort_int_none Tryz.sortA p cap W)⟩
theorem aHv (mb:Option Nat) (W:World):Calls P abX #[.map mb] W fun e w'=>e= .returned (.func (.func abh) #[] #[.pointer (some ⟨W.heap.size,0,none⟩)])/\w'=W.alloc (.cells #[.map mb] (Tryz.keysA_ren.t 23)):=
 (callsIn_wide (n:=5)).1 (AnyZI.keys_in Tryz.keysA Fence.wide 5 trivial rfl mb W)
theorem azk {mp q:Nat} {f:Int ->Option Value} (h:Sep E L w) (hq:L[q]? =some (mapF mp (Value.int .i64) f)) {N:Nat} (hN:∀ k v,f k=some v ->0<=k/\k<N) (hb:N<=17592186044416) {G:Sl ->World ->Prop}
  (k:∀ (s:Sl) (l:List Int) (w':World),s.n=l.length ->KeysOf f l ->Sep E (rowA s 1 (intL l)::L) w' ->G s w'):
  Calls P abX #[(.map (some mp))] w fun e9 w8=>∃ x10:Value,e9= .returned x10/\Calls P aeG #[x10] w8 fun e12 w11=>∃ x13:Sl,e12= .returned (.slice x13.p x13.n x13.c)/\G x13 w11:=by
 refine (aHv _ w).mono ?_
 rintro e w1 ⟨rfl,rfl⟩
 refine ⟨_,rfl,?_⟩
 have h1:=h.alloc #[.map (some mp)] (Tryz.keysA_ren.t 23)
 have hq1:(blk w.heap.size [.map (some mp)]::L)[q+1]? =some (mapF mp (Value.int .i64) f):=by simpa using hq
 obtain ⟨D,hown,hsz,hss⟩:=mapF.owns (kt:=adJ) h1 hq1 (by kernel_rfl) hN hb
 have hseq:=AnyZI.keys_gives (ρ:=Tryz.keysA_ren) {Tryz.keysA with} Fence.wide 2 trivial rfl (by omega) w.heap.size mp N D _ (by simp) (by simp) hown
 have hg:∀ args W,(callFunc abh args).run P W= .ok (.enter abh args) W:=enters_of Tryz.func242 (by kernel_rfl) rfl
 have h9:∀ args W,(callFunc (Tryz.sortedA_ren.f 9) args).run P W= .ok (.enter (Tryz.sortedA_ren.f 9) args) W:=enters_of Tryz.func241 (by kernel_rfl) rfl
 have hS:=AnyZI.sorted_in Tryz.sortedA Fence.wide 5 trivial trivial trivial trivial rfl (by omega) (aFZ _) h9 abh #[.pointer (some ⟨w.heap.size,0,none⟩)] trivial hg _ _ (by simp [maxLen];omega) (by omega) _ hseq
 refine ((callsIn_wide (n:=5)).1 hS).mono ?_
 rintro e w2 ⟨v,ss,rfl,hperm,hrow,hnil,hbel⟩
 obtain ⟨hnd,hmem⟩:=hss ss hperm
 have hlen:(ss.mergeSort fun x y=>decide (x<=y)).length=ss.length:=List.length_mergeSort ss
 rw [<- hlen] at hrow
 obtain ⟨s,rfl,hn,h2⟩:=ayt h1 hrow hbel
 refine ⟨s,rfl,k s _ w2 hn ⟨auy hnd,fun k=> ?_⟩ (h2.fr 1 rfl).tail⟩
 rw [(List.mergeSort_perm _ _).mem_iff];exact hmem k
theorem aHu (mb:Option Nat) (W:World):Calls P abY #[.map mb] W fun e w'=>e= .returned (.func (.func abj) #[] #[.pointer (some ⟨W.heap.size,0,none⟩)])/\w'=W.alloc (.cells #[.map mb] (Tryz.keysA1_ren.t 23)):=
 (callsIn_wide (n:=5)).1 (AnyZI.keys_in Tryz.keysA1 Fence.wide 5 trivial rfl mb W)
theorem azj {mp q:Nat} {f:Int ->Option Value} (h:Sep E L w) (hq:L[q]? =some (mapF mp (Value.int .i64) f)) {N:Nat} (hN:∀ k v,f k=some v ->0<=k/\k<N) (hb:N<=17592186044416) {G:Sl ->World ->Prop}
  (k:∀ (s:Sl) (l:List Int) (w':World),s.n=l.length ->KeysOf f l ->Sep E (rowA s 1 (intL l)::L) w' ->G s w'):
  Calls P abY #[(.map (some mp))] w fun e9 w8=>∃ x10:Value,e9= .returned x10/\Calls P aeG #[x10] w8 fun e12 w11=>∃ x13:Sl,e12= .returned (.slice x13.p x13.n x13.c)/\G x13 w11:=by
 refine (aHu _ w).mono ?_
 rintro e w1 ⟨rfl,rfl⟩
 refine ⟨_,rfl,?_⟩
 have h1:=h.alloc #[.map (some mp)] (Tryz.keysA1_ren.t 23)
 have hq1:(blk w.heap.size [.map (some mp)]::L)[q+1]? =some (mapF mp (Value.int .i64) f):=by simpa using hq
 obtain ⟨D,hown,hsz,hss⟩:=mapF.owns (kt:=adJ) h1 hq1 (by kernel_rfl) hN hb
 have hseq:=AnyZI.keys_gives (ρ:=Tryz.keysA1_ren) {Tryz.keysA1 with} Fence.wide 2 trivial rfl (by omega) w.heap.size mp N D _ (by simp) (by simp) hown
 have hg:∀ args W,(callFunc abj args).run P W= .ok (.enter abj args) W:=enters_of Tryz.func265 (by kernel_rfl) rfl
 have h9:∀ args W,(callFunc (Tryz.sortedA_ren.f 9) args).run P W= .ok (.enter (Tryz.sortedA_ren.f 9) args) W:=enters_of Tryz.func241 (by kernel_rfl) rfl
 have hS:=AnyZI.sorted_in Tryz.sortedA Fence.wide 5 trivial trivial trivial trivial rfl (by omega) (aFZ _) h9 abj #[.pointer (some ⟨w.heap.size,0,none⟩)] trivial hg _ _ (by simp [maxLen];omega) (by omega) _ hseq
 refine ((callsIn_wide (n:=5)).1 hS).mono ?_
 rintro e w2 ⟨v,ss,rfl,hperm,hrow,hnil,hbel⟩
 obtain ⟨hnd,hmem⟩:=hss ss hperm
 have hlen:(ss.mergeSort fun x y=>decide (x<=y)).length=ss.length:=List.length_mergeSort ss
 rw [<- hlen] at hrow
 obtain ⟨s,rfl,hn,h2⟩:=ayt h1 hrow hbel
 refine ⟨s,rfl,k s _ w2 hn ⟨auy hnd,fun k=> ?_⟩ (h2.fr 1 rfl).tail⟩
 rw [(List.mergeSort_perm _ _).mem_iff];exact hmem k
end Go.Mp
end
section
set_option maxRecDepth 100000
namespace Go.Kc
open Go
def Pg.vs (p:Pg):List Value:= [.int .i64 p.kf,.int .i64 p.ki,.int .i64 p.place,.int .i64 p.at_,.int .i64 p.owner,.int .i64 p.refs,.int .i64 p.gen,.bool p.hot,.bool p.dirty]
end Go.Kc
namespace Go.Mp.Tp
open Go Go.Vc Go.Sp Go.Kc Go.Mp
abbrev encI:Int ->Value:=Value.int .i64
def encK (k:Int×Int):Value:= .agg #[.int .i64 k.1,.int .i64 k.2]
theorem aBo (a b:Int×Int) (h:encK a=encK b):a=b:=by
 obtain ⟨a1,a2⟩:=a;obtain ⟨b1,b2⟩:=b
 simpa [encK] using h
theorem ahR:acM P adJ encI:=acM.int (by kernel_rfl)
theorem aDU:acM P al5 encK:=acM.agg (d:=3) (l:= [.int .i64,.int .i64]) aBo (by kernel_rfl) (by decide) (by kernel_rfl) (fun k=>by
 unfold Typed;rw [show aggQ P al5=some true by kernel_rfl]
 exact ⟨_,rfl,⟨_,rfl⟩,⟨_,rfl⟩,trivial⟩)
theorem aAE:acM P apU encK:=acM.agg (d:=3) (l:= [.int .i64,.int .i64]) aBo (by kernel_rfl) (by decide) (by kernel_rfl) (fun k=>by
 unfold Typed;rw [show aggQ P apU=some true by kernel_rfl]
 exact ⟨_,rfl,⟨_,rfl⟩,⟨_,rfl⟩,trivial⟩)
def pgF (S:TS) (a:Int ->Nat):Int ->Asn:=fun id=>match S.pg id with
 | some p=>blk (a id) p.vs
 | none=>emp
def ptrF (S:TS) (a:Int ->Nat):Int ->Option Value:=fun id=>(S.pg id).map fun _=> .pointer (some ⟨a id,0,none⟩)
def TabL (t mp mf ms:Nat) (a:Int ->Nat) (S:TS):List Asn:=
 [blk t [.map (some mp),.map (some mf),.map (some ms),.int .i64 S.next],mapF mp encI (ptrF S a),mapF mf encK (fun k=>(S.files k).map encI),mapF ms encK (fun k=>(S.spots k).map encI),famA (pgF S a)]
def Tab (t:Nat) (S:TS):Asn:=exA fun mp:Nat=>exA fun mf:Nat=>exA fun ms:Nat=>exA fun a:Int ->Nat=>starL (TabL t mp mf ms a S)
variable {E:Env} {L:List Asn} {w:World}
theorem Tab.open {t:Nat} {S:TS} (h:Sep E (Tab t S::L) w):∃ mp mf ms a,Sep E (blk t [.map (some mp),.map (some mf),.map (some ms),.int .i64 S.next]::mapF mp encI (ptrF S a)::
  mapF mf encK (fun k=>(S.files k).map encI)::mapF ms encK (fun k=>(S.spots k).map encI)::famA (pgF S a)::L) w:=by
 obtain ⟨mp,h⟩:=Sep.ex.1 h
 obtain ⟨mf,h⟩:=Sep.ex.1 h
 obtain ⟨ms,h⟩:=Sep.ex.1 h
 obtain ⟨a,h⟩:=Sep.ex.1 h
 exact ⟨mp,mf,ms,a,Sep.starL.1 h⟩
theorem Tab.shut {t mp mf ms:Nat} {a:Int ->Nat} {S:TS} (h:Sep E (blk t [.map (some mp),.map (some mf),.map (some ms),.int .i64 S.next]::mapF mp encI (ptrF S a)::
  mapF mf encK (fun k=>(S.files k).map encI)::mapF ms encK (fun k=>(S.spots k).map encI)::famA (pgF S a)::L) w):Sep E (Tab t S::L) w:=
 Sep.ex.2 ⟨mp,Sep.ex.2 ⟨mf,Sep.ex.2 ⟨ms,Sep.ex.2 ⟨a,Sep.starL.2 h⟩⟩⟩⟩
theorem aIy {t mp q:Nat} {f:Int ->Option Value} (h:Sep E L w) {i:Nat} {c:List Value} (ht:L[i]? =some (blk t c)) (hc:c[0]? =some (.map (some mp))) (hq:L[q]? =some (mapF mp (Value.int .i64) f)) {N:Nat} (hN:∀ k v,f k=some v ->0<=k/\k<N) (hb:N<=17592186044416):
  Calls P aea #[.pointer (some ⟨t,0,none⟩)] w (Ret fun v w'=>∃ (s:Sl) (l:List Int),v= .slice s.p s.n s.c/\s.n=l.length/\KeysOf f l/\Sep E (rowA s 1 (intL l)::L) w'):=by
 apply arW
 unfold ali
 refine ⟨_,rfl,some mp,by rw [aad,h.cellAt i ht];exact hc,azk h hq hN hb (fun s l w' hn hk h1=> ?_)⟩
 exact ⟨s,l,rfl,hn,hk,h1⟩
theorem afB (h:Sep E L w):Calls P aji #[] w (Ret fun v w'=>∃ t,v= .pointer (some ⟨t,0,none⟩)/\Sep E (Tab t TS.zero::L) w'):=by
 apply aBR
 unfold asx
 refine mapF.new (enc:=encI) h (fun mp w1 h1=>mapF.new (enc:=encK) h1 (fun mf w2 h2=>mapF.new (enc:=encK) h2 (fun ms w3 h3=>Al.i h3 (fun t w4 h4=> ?_))))
 refine ⟨t,rfl,Tab.shut (mp:=mp) (mf:=mf) (ms:=ms) (a:=fun _=>0) ?_⟩
 have h5:Sep E (famA (pgF TS.zero fun _=>0)::_) w4:=famA.nil h4 (fun i=>rfl)
 exact h5.ro 5 [1,4,3,2,0] rfl
theorem aBK {κ:Type} {enc:κ ->Value} {b:Nat} {t kt:TypeId} {g:κ ->Option Int} (i:Nat) (h:Sep E L w) (hi:L[i]? =some (mapF b enc (fun k=>(g k).map encI))) (K:acM P kt enc) (hq:mQ P t=some (kt,.int .i64 0)) (k:κ):
  aca P t (.map (some b)) (enc k) true w (.tuple #[.int .i64 ((g k).getD 0),.bool (g k).isSome]):=by
 have:=aca.i true i h hi K hq k
 cases hg:g k with
 | none=>simpa [hg] using this
 | some v=>simpa [hg] using this
theorem aiH {b:Nat} {S:TS} {a:Int ->Nat} (i:Nat) (h:Sep E L w) (hi:L[i]? =some (mapF b encI (ptrF S a))) (k:Int):
  aca P aic (.map (some b)) (.int .i64 k) false w (.pointer ((S.pg k).map fun _=>⟨a k,0,none⟩)):=by
 have:=aca.i false i h hi ahR (t:=aic) (z:= .pointer none) (by kernel_rfl) k
 unfold ptrF at this
 cases hg:S.pg k with
 | none=>simpa [hg] using this
 | some v=>simpa [hg] using this
theorem c_Of {t:Nat} {S:TS} (k:Int×Int) (h:Sep E (Tab t S::L) w):Calls P afJ #[.pointer (some ⟨t,0,none⟩),encK k] w (Ret fun v w'=>v= .int .i64 (S.of k)/\Sep E (Tab t S::L) w'):=by
 obtain ⟨mp,mf,ms,a,h⟩:=Tab.open h
 apply atT
 unfold alL
 refine Al.i h (fun p w1 h1=>Dr.i h1 (fun w2 h2=> ?_))
 have hs:=Tab.shut (h2.tail)
 refine ⟨_,rfl,some mf,by rw [aad];exact (h2.cellAt 1 rfl _).trans rfl,k.1,(h2.cellAt 0 rfl _).trans rfl,k.2,by rw [aad];exact (h2.cellAt 0 rfl _).trans rfl,_,_,aBK 3 h2 rfl aDU (by kernel_rfl) k,?_⟩
 unfold TS.of
 cases hg:S.files k with
 | none=>exact bifF ⟨rfl,hs⟩
 | some v=>exact bifT ⟨rfl,hs⟩
theorem c_At {t:Nat} {S:TS} (place at_:Int) (h:Sep E (Tab t S::L) w):Calls P afI #[.pointer (some ⟨t,0,none⟩),.int .i64 place,.int .i64 at_] w (Ret fun v w'=>w'=w/\v= .int .i64 (S.at_ (place,at_))):=by
 obtain ⟨mp,mf,ms,a,h⟩:=Tab.open h
 apply atS
 unfold alK
 refine ⟨_,rfl,some ms,by rw [aad];exact (h.cellAt 0 rfl _).trans rfl,_,_,aBK 3 h rfl aAE (by kernel_rfl) (place,at_),?_⟩
 unfold TS.at_
 cases hg:S.spots (place,at_) with
 | none=>exact bifF ⟨rfl,rfl⟩
 | some v=>exact bifT ⟨rfl,rfl⟩
theorem aHH {S:TS} {a:Int ->Nat} {id:Int} {p:Pg} {S':TS} (hS:S'.pg=upd S.pg id (some p)) (b:Nat) (hb:∀ j,j≠id ->S.pg j≠none ->(fun j=>if j=id then b else a j) j=a j):pgF S' (fun j=>if j=id then b else a j)=setA (pgF S a) id (blk b p.vs):=by
 have _:=hb
 funext j
 unfold pgF setA
 rw [hS];unfold upd
 by_cases h:j=id
 ·simp [h]
 ·simp [h]
theorem aGH {S:TS} {a:Int ->Nat} {id:Int} {p:Pg} {S':TS} (hS:S'.pg=upd S.pg id (some p)) (b:Nat):ptrF S' (fun j=>if j=id then b else a j)=upd (ptrF S a) id (some (.pointer (some ⟨b,0,none⟩))):=by
 funext j
 unfold ptrF upd
 rw [hS];unfold upd
 by_cases h:j=id
 ·simp [h]
 ·simp [h]
theorem as3 {S:TS} {a:Int ->Nat} {id:Int} {p:Pg} {S':TS} (hS:S'.pg=upd S.pg id (some p)):pgF S' a=setA (pgF S a) id (blk (a id) p.vs):=by
 funext j
 unfold pgF setA
 rw [hS];unfold upd
 by_cases h:j=id
 ·simp [h]
 ·simp [h]
theorem apA {S:TS} {a:Int ->Nat} {id:Int} {p q:Pg} {S':TS} (hS:S'.pg=upd S.pg id (some p)) (hq:S.pg id=some q):ptrF S' a=ptrF S a:=by
 funext j
 unfold ptrF
 rw [hS];unfold upd
 by_cases h:j=id
 ·simp [h,hq]
 ·simp [h]
theorem aFH {S:TS} {a:Int ->Nat} {id:Int} {p:Pg} (h:S.pg id=some p):pgF S a id=blk (a id) p.vs:=by unfold pgF;rw [h]
theorem ahW {t:Nat} {S:TS} (id:Int) (h:Sep E (Tab t S::L) w):Calls P abK #[.pointer (some ⟨t,0,none⟩),.int .i64 id] w (Ret fun v w'=>v= .tuple #[.agg (S.get id).1.vs.toArray,.int .i64 (S.get id).2]/\Sep E (Tab t S::L) w'):=by
 obtain ⟨mp,mf,ms,a,h⟩:=Tab.open h
 apply arX
 unfold alj
 refine Al.i h (fun r w1 h1=> ?_)
 refine ⟨_,rfl,some mp,by rw [aad];exact (h1.cellAt 1 rfl _).trans rfl,_,aiH 2 h1 rfl id,?_⟩
 have fin:∀ {w2:World} (p:Pg),Sep E (blk r p.vs::Tab t S::L) w2 ->∀ (j:Nat) (v:Value),p.vs[j]? =some v ->w2.cell? (Addr.add ⟨r,0,none⟩ j)=some v:=by
  intro w2 p h2 j v hv
  rw [aad,h2.cell,Nat.zero_add];exact hv
 unfold TS.get
 cases hg:S.pg id with
 | none=>
  refine bifF (StN.i (h1.ro 6 [0,1,2,3,4,5] rfl) (by decide) (fun w2 h2=> ?_))
  have h3:Sep E (Tab t S::L) w2:=Tab.shut h2.tail
  have f:=fin Pg.zero (w2:=w2) ((Tab.shut (L:=blk r Pg.zero.vs::L) (h2.ro 6 [1,2,3,4,5,0] rfl)).swap)
  exact ⟨_,f 0 _ rfl,_,f 1 _ rfl,_,f 2 _ rfl,_,f 3 _ rfl,_,f 4 _ rfl,_,f 5 _ rfl,_,f 6 _ rfl,_,f 7 _ rfl,_,f 8 _ rfl,rfl,h3⟩
 | some p=>
  have h4:=famA.out (h1.fr 5 rfl) id
  rw [aFH hg] at h4
  have ld:∀ (j:Nat) (v:Value),p.vs[j]? =some v ->w1.cell? (Addr.add ⟨a id,0,none⟩ j)=some v:=by
   intro j v hv
   rw [aad,h4.cell,Nat.zero_add];exact hv
  refine bifT ⟨_,rfl,_,ld 0 _ rfl,_,ld 1 _ rfl,_,ld 2 _ rfl,_,ld 3 _ rfl,_,ld 4 _ rfl,_,ld 5 _ rfl,_,ld 6 _ rfl,_,ld 7 _ rfl,_,ld 8 _ rfl,?_⟩
  refine StN.i (h1.ro 6 [0,1,2,3,4,5] rfl) (Nat.le_refl 9) (fun w2 h2=> ?_)
  have h3:Sep E (Tab t S::L) w2:=Tab.shut h2.tail
  have f:=fin p (w2:=w2) ((Tab.shut (L:=blk r p.vs::L) (h2.ro 6 [1,2,3,4,5,0] rfl)).swap)
  exact ⟨_,f 0 _ rfl,_,f 1 _ rfl,_,f 2 _ rfl,_,f 3 _ rfl,_,f 4 _ rfl,_,f 5 _ rfl,_,f 6 _ rfl,_,f 7 _ rfl,_,f 8 _ rfl,rfl,h3⟩
theorem aDH {t mp mf ms q p:Nat} {a:Int ->Nat} {S:TS} {kf ki o:Int} {pc:List Value} (hfree:S.pg S.next=none)
  (h:Sep E (mapF mp encI (upd (ptrF S a) S.next (some (.pointer (some ⟨q,0,none⟩))))::blk q [.int .i64 kf,.int .i64 ki,.int .i64 0,.int .i64 0,.int .i64 o,.int .i64 0,.int .i64 0,.bool false,.bool false]::
   blk t [.map (some mp),.map (some mf),.map (some ms),.int .i64 (IntKind.i64.wrap (S.next+1))]::blk p pc::mapF mf encK (fun k=>(S.files k).map encI)::mapF ms encK (fun k=>(S.spots k).map encI)::famA (pgF S a)::L) w):
  Sep E (Tab t (S.new_ kf ki o)::L) w:=by
 have h1:=h.ro 7 [1,6,2,0,4,5,3] rfl
 have h2:=famA.in_ (i:=S.next) h1 (by unfold pgF;rw [hfree])
 have e1:=aHH (S:=S) (a:=a) (id:=S.next) (p:=⟨kf,ki,0,0,o,0,0,false,false⟩) (S':=S.new_ kf ki o) rfl q (fun j hj _=>by simp [hj])
 have e2:=aGH (S:=S) (a:=a) (id:=S.next) (p:=⟨kf,ki,0,0,o,0,0,false,false⟩) (S':=S.new_ kf ki o) rfl q
 have e3:setA (pgF S a) S.next (blk q [.int .i64 kf,.int .i64 ki,.int .i64 0,.int .i64 0,.int .i64 o,.int .i64 0,.int .i64 0,.bool false,.bool false])=pgF (S.new_ kf ki o) (fun j=>if j=S.next then q else a j):=e1.symm
 rw [e3,<- e2] at h2
 have h3:=(h2.fr 5 rfl).tail
 exact Tab.shut (S:=S.new_ kf ki o) (h3.ro 5 [1,2,3,4,0] rfl)
theorem awm {t:Nat} {S:TS} (kf ki o:Int) (hfree:S.pg S.next=none) (h:Sep E (Tab t S::L) w):Calls P ae5 #[.pointer (some ⟨t,0,none⟩),encK (kf,ki),.int .i64 o] w
  (Ret fun v w'=>v= .tuple #[.int .i64 (S.make kf ki o).2.1,.int .i64 (S.make kf ki o).2.2]/\Sep E (Tab t (S.make kf ki o).1::L) w'):=by
 obtain ⟨mp,mf,ms,a,h⟩:=Tab.open h
 apply aqC
 unfold aj0
 refine Al.i h (fun p w1 h1=> ?_)
 refine ⟨_,rfl,S.next,by rw [aad];exact (h1.cellAt 1 rfl _).trans rfl,kf,(h1.cellAt 0 rfl _).trans rfl,?_⟩
 unfold TS.make
 refine bLt (fun hk=> ?_) (fun hk=> ?_)
 ·rw [if_pos hk]
  refine StN.i h1 (Nat.le_refl 2) (fun w2 h2=> ?_)
  refine ⟨_,rfl,S.next,by rw [aad];exact (h2.cellAt 1 rfl _).trans rfl,_,rfl,?_⟩
  rw [aad]
  refine St.i h2.swap (show 3<4 by decide) (fun w3 h3=>Dr.i h3 (fun w4 h4=> ?_))
  refine ⟨_,rfl,some mp,by rw [aad];exact (h4.cellAt 0 rfl _).trans rfl, -1,(h4.cellAt 1 rfl _).trans rfl,S.next,by rw [aad];exact (h4.cellAt 1 rfl _).trans rfl,?_⟩
  refine Al.i h4 (fun q w5 h5=> ?_)
  refine ⟨some mp,by rw [aad];exact (h5.cellAt 1 rfl _).trans rfl,rfl,?_⟩
  refine mapUpdate.i (h5.ro 7 [3,0,1,2,4,5,6] rfl) ahR (z:= .pointer none) (by kernel_rfl) S.next _ (fun w6 h6=>⟨rfl,?_⟩)
  exact aDH hfree h6
 ·rw [if_neg (by omega)]
  refine ⟨kf,(h1.cellAt 0 rfl _).trans rfl,ki,by rw [aad];exact (h1.cellAt 0 rfl _).trans rfl,?_⟩
  refine use (c_Of (L:=blk p [.int .i64 kf,.int .i64 ki]::L) (S:=S) (t:=t) (kf,ki) (Tab.shut (h1.ro 6 [1,2,3,4,5,0] rfl))) ?_
  rintro _ w2 ⟨rfl,h2⟩
  refine ⟨_,rfl,bGe (fun hge=> ?_) (fun hlt=> ?_)⟩
  ·rw [if_pos hge];exact ⟨rfl,(h2.fr 1 rfl).tail⟩
  ·rw [if_neg (by omega)]
   obtain ⟨mp,mf,ms,a,h2⟩:=Tab.open h2
   refine Dr.i h2 (fun w3 h3=> ?_)
   refine ⟨_,rfl,some mf,by rw [aad];exact (h3.cellAt 0 rfl _).trans rfl,kf,(h3.cellAt 5 rfl _).trans rfl,ki,by rw [aad];exact (h3.cellAt 5 rfl _).trans rfl,?_⟩
   refine mapUpdate.i (h3.ro 6 [2,0,1,3,4,5] rfl) aDU (z:= .int .i64 0) (by kernel_rfl) (kf,ki) _ (fun w4 h4=> ?_)
   refine ⟨_,rfl,S.next,by rw [aad];exact (h4.cellAt 1 rfl _).trans rfl,_,rfl,?_⟩
   rw [aad]
   refine St.i h4.swap (show 3<4 by decide) (fun w5 h5=>Dr.i h5 (fun w6 h6=> ?_))
   refine ⟨_,rfl,some mp,by rw [aad];exact (h6.cellAt 0 rfl _).trans rfl,kf,(h6.cellAt 5 rfl _).trans rfl,ki,by rw [aad];exact (h6.cellAt 5 rfl _).trans rfl,?_⟩
   refine Al.i h6 (fun q w7 h7=> ?_)
   refine ⟨some mp,by rw [aad];exact (h7.cellAt 1 rfl _).trans rfl,rfl,?_⟩
   refine mapUpdate.i (h7.ro 7 [3,0,1,6,2,4,5] rfl) ahR (z:= .pointer none) (by kernel_rfl) S.next _ (fun w8 h8=>⟨rfl,?_⟩)
   have e:(upd (fun k=>(S.files k).map encI) (kf,ki) (some (.int .i64 S.next)))=fun k=>(upd S.files (kf,ki) (some S.next) k).map encI:=by
    funext k;unfold upd;split<;>rfl
   rw [e] at h8
   exact aDH (S:= {S with files:=upd S.files (kf,ki) (some S.next)}) hfree h8
theorem Tab.page {mp:Nat} {a:Int ->Nat} {S:TS} {id:Int} {p:Pg} {A B C D:Asn} (hg:S.pg id=some p) (h:Sep E (A::B::C::D::famA (pgF S a)::L) w):Sep E (blk (a id) p.vs::famA (setA (pgF S a) id emp)::A::B::C::D::L) w:=by
 have _:=mp
 have h1:=famA.out (h.fr 4 rfl) id
 rw [aFH hg] at h1
 exact h1
theorem aHq {t:Nat} {S:TS} (id n:Int) (h:Sep E (Tab t S::L) w):Calls P agD #[.pointer (some ⟨t,0,none⟩),.int .i64 id,.int .i64 n] w
  (Ret fun v w'=>v= .tuple #[.int .i64 (S.refer id n).2.1,.int .i64 (S.refer id n).2.2]/\Sep E (Tab t (S.refer id n).1::L) w'):=by
 have h0:=h
 obtain ⟨mp,mf,ms,a,h⟩:=Tab.open h
 apply apv
 unfold ajD
 refine ⟨_,rfl,some mp,by rw [aad];exact (h.cellAt 0 rfl _).trans rfl,_,aiH 1 h rfl id,?_⟩
 unfold TS.refer
 cases hg:S.pg id with
 | none=>exact bifT ⟨rfl,h0⟩
 | some p=>
  refine bifF (bLt (fun h1=> ?_) (fun h1=>bGt (fun h2=> ?_) (fun h2=> ?_)))
  ·dsimp only;rw [if_pos (.inl h1)];exact ⟨rfl,h0⟩
  ·dsimp only;rw [if_pos (.inr (.inl h2))];exact ⟨rfl,h0⟩
  ·have h3:=Tab.page (mp:=mp) hg h
   refine ⟨_,rfl,p.refs,by rw [aad];exact (h3.cellAt 0 rfl _).trans rfl,bLt (fun h4=> ?_) (fun h4=> ?_)⟩
   ·dsimp only;rw [if_pos (.inr (.inr h4))];exact ⟨rfl,h0⟩
   ·dsimp only;rw [if_neg (by omega)]
    refine ⟨_,rfl,p.refs,by rw [aad];exact (h3.cellAt 0 rfl _).trans rfl,_,rfl,?_⟩
    refine St.j h3 (show 5<9 by decide) (fun w2 h5=> ?_)
    refine ⟨_,rfl,IntKind.i64.wrap (p.refs+n),by rw [aad];exact (h5.cellAt 0 rfl _).trans rfl,rfl,?_⟩
    have h6:=famA.back h5
    have e:setA (pgF S a) id (blk (a id) (p.vs.set (0+5) (.int .i64 (IntKind.i64.wrap (p.refs+n)))))=pgF (S.setPg id {p with refs:=IntKind.i64.wrap (p.refs+n)}) a:=(as3 (S':=S.setPg id {p with refs:=IntKind.i64.wrap (p.refs+n)}) rfl).symm
    have e2:ptrF S a=ptrF (S.setPg id {p with refs:=IntKind.i64.wrap (p.refs+n)}) a:=(apA rfl hg).symm
    rw [e,e2] at h6
    exact Tab.shut (S:=S.setPg id {p with refs:=IntKind.i64.wrap (p.refs+n)}) (h6.ro 5 [1,2,3,4,0] rfl)
theorem ark {t:Nat} {S:TS} (id:Int) (h:Sep E (Tab t S::L) w):Calls P ae4 #[.pointer (some ⟨t,0,none⟩),.int .i64 id] w
  (Ret fun v w'=>v= .int .i64 (S.drop id).2/\Sep E (Tab t (S.drop id).1::L) w'):=by
 have h0:=h
 obtain ⟨mp,mf,ms,a,h⟩:=Tab.open h
 apply aqB
 unfold ajZ
 refine ⟨_,rfl,some mp,by rw [aad];exact (h.cellAt 0 rfl _).trans rfl,_,aiH 1 h rfl id,?_⟩
 unfold TS.drop
 cases hg:S.pg id with
 | none=>exact bifT ⟨rfl,h0⟩
 | some p=>
  have h3:=Tab.page (mp:=mp) hg h
  refine bifF ⟨_,rfl,p.refs,by rw [aad];exact (h3.cellAt 0 rfl _).trans rfl,bGt (fun h4=> ?_) (fun h4=> ?_)⟩
  ·dsimp only;rw [if_pos (.inl h4)];exact ⟨rfl,h0⟩
  ·refine ⟨_,rfl,p.place,by rw [aad];exact (h3.cellAt 0 rfl _).trans rfl,bNe (fun h5=> ?_) (fun h5=> ?_)⟩
   ·dsimp only;rw [if_pos (.inr h5)];exact ⟨rfl,h0⟩
   ·dsimp only;rw [if_neg (by omega)]
    refine Dr.i h3 (fun w1 h6=> ?_)
    refine ⟨_,rfl,some mf,by rw [aad];exact (h6.cellAt 2 rfl _).trans rfl,_,rfl,p.kf,by rw [aad,aad];exact (h6.cellAt 0 rfl _).trans rfl,p.ki,by rw [aad,aad];exact (h6.cellAt 0 rfl _).trans rfl,?_⟩
    refine mapDelete.i (h6.ro 6 [4,0,1,2,3,5] rfl) aDU (z:= .int .i64 0) (by kernel_rfl) (p.kf,p.ki) (fun w2 h7=> ?_)
    refine ⟨_,rfl,some mp,by rw [aad];exact (h7.cellAt 3 rfl _).trans rfl,?_⟩
    refine mapDelete.i (h7.ro 6 [4,0,1,2,3,5] rfl) ahR (z:= .pointer none) (by kernel_rfl) id (fun w3 h8=>⟨rfl,?_⟩)
    have e1:upd (ptrF S a) id none=ptrF {S with pg:=upd S.pg id none,files:=upd S.files (p.kf,p.ki) none} a:=by
     funext j;unfold ptrF upd;dsimp only;split<;>rfl
    have e2:(upd (fun k=>(S.files k).map encI) (p.kf,p.ki) none)=fun k=>(upd S.files (p.kf,p.ki) none k).map encI:=by
     funext k;unfold upd;split<;>rfl
    have e3:setA (pgF S a) id emp=pgF {S with pg:=upd S.pg id none,files:=upd S.files (p.kf,p.ki) none} a:=by
     funext j;unfold pgF setA upd;dsimp only;split<;>rfl
    rw [e1,e2,e3] at h8
    exact Tab.shut (S:= {S with pg:=upd S.pg id none,files:=upd S.files (p.kf,p.ki) none}) ((h8.fr 2 rfl).tail.ro 5 [3,0,1,4,2] rfl)
theorem aAT {t:Nat} {S:TS} (id o:Int) (b:Nat) (h:Sep E (Tab t S::blk b [.int .i64 o]::L) w):Calls P ac5 #[.pointer (some ⟨t,0,none⟩),.int .i64 id,.func (.func aeF) #[] #[.pointer (some ⟨b,0,none⟩)]] w
  (Ret fun v w'=>v= .int .i64 (S.own id o).2/\Sep E (Tab t (S.own id o).1::L) w'):=by
 have h0:=h
 obtain ⟨mp,mf,ms,a,h⟩:=Tab.open h
 apply aiO
 unfold af3
 refine ⟨_,rfl,some mp,by rw [aad];exact (h.cellAt 0 rfl _).trans rfl,_,aiH 1 h rfl id,?_⟩
 unfold TS.own
 cases hg:S.pg id with
 | none=>exact bifT ⟨rfl,(h0.fr 1 rfl).tail⟩
 | some p=>
  refine bifF ⟨aeF,_,rfl,by kernel_rfl,?_⟩
  have h3:=Tab.page (mp:=mp) hg h
  refine use (K:=fun v w'=>v= .tuple #[]/\Sep E (Tab t (S.setPg id {p with owner:=o})::L) w') (apu (some ⟨a id,0,none⟩) ⟨b,0,none⟩ ?_) ?_
  ·unfold ajC
   refine ⟨o,(h3.cellAt 6 rfl _).trans rfl,_,rfl,?_⟩
   refine St.j h3 (show 4<9 by decide) (fun w2 h5=>⟨rfl,?_⟩)
   have h6:=famA.back h5
   have e:setA (pgF S a) id (blk (a id) (p.vs.set (0+4) (.int .i64 o)))=pgF (S.setPg id {p with owner:=o}) a:=(as3 (S':=S.setPg id {p with owner:=o}) rfl).symm
   have e2:ptrF S a=ptrF (S.setPg id {p with owner:=o}) a:=(apA rfl hg).symm
   rw [e,e2] at h6
   exact Tab.shut (S:=S.setPg id {p with owner:=o}) ((h6.fr 5 rfl).tail.ro 5 [1,2,3,4,0] rfl)
  ·rintro v w' ⟨rfl,h4⟩
   exact ⟨rfl,rfl,h4⟩
theorem aG5 {t:Nat} {S:TS} (id o:Int) (h:Sep E (Tab t S::L) w):Calls P afo #[.pointer (some ⟨t,0,none⟩),.int .i64 id,.int .i64 o] w
  (Ret fun v w'=>v= .int .i64 (S.own id o).2/\Sep E (Tab t (S.own id o).1::L) w'):=by
 apply arY
 unfold alk
 refine Al.i h (fun b w1 h1=>use (aAT id o b h1.swap) ?_)
 rintro v w' ⟨rfl,h2⟩
 exact ⟨_,rfl,rfl,h2⟩
theorem azi {t:Nat} {S:TS} (id:Int) (o:Bool) (b:Nat) (h:Sep E (Tab t S::blk b [.bool o]::L) w):Calls P ac5 #[.pointer (some ⟨t,0,none⟩),.int .i64 id,.func (.func aep) #[] #[.pointer (some ⟨b,0,none⟩)]] w
  (Ret fun v w'=>v= .int .i64 (S.mark id o).2/\Sep E (Tab t (S.mark id o).1::L) w'):=by
 have h0:=h
 obtain ⟨mp,mf,ms,a,h⟩:=Tab.open h
 apply aiO
 unfold af3
 refine ⟨_,rfl,some mp,by rw [aad];exact (h.cellAt 0 rfl _).trans rfl,_,aiH 1 h rfl id,?_⟩
 unfold TS.mark
 cases hg:S.pg id with
 | none=>exact bifT ⟨rfl,(h0.fr 1 rfl).tail⟩
 | some p=>
  refine bifF ⟨aep,_,rfl,by kernel_rfl,?_⟩
  have h3:=Tab.page (mp:=mp) hg h
  refine use (K:=fun v w'=>v= .tuple #[]/\Sep E (Tab t (S.setPg id {p with dirty:=o})::L) w') (aor (some ⟨a id,0,none⟩) ⟨b,0,none⟩ ?_) ?_
  ·unfold aiX
   refine ⟨o,(h3.cellAt 6 rfl _).trans rfl,_,rfl,?_⟩
   refine St.j h3 (show 8<9 by decide) (fun w2 h5=>⟨rfl,?_⟩)
   have h6:=famA.back h5
   have e:setA (pgF S a) id (blk (a id) (p.vs.set (0+8) (.bool o)))=pgF (S.setPg id {p with dirty:=o}) a:=(as3 (S':=S.setPg id {p with dirty:=o}) rfl).symm
   have e2:ptrF S a=ptrF (S.setPg id {p with dirty:=o}) a:=(apA rfl hg).symm
   rw [e,e2] at h6
   exact Tab.shut (S:=S.setPg id {p with dirty:=o}) ((h6.fr 5 rfl).tail.ro 5 [1,2,3,4,0] rfl)
  ·rintro v w' ⟨rfl,h4⟩
   exact ⟨rfl,rfl,h4⟩
theorem aE1 {t:Nat} {S:TS} (id:Int) (o:Bool) (h:Sep E (Tab t S::L) w):Calls P ae6 #[.pointer (some ⟨t,0,none⟩),.int .i64 id,.bool o] w
  (Ret fun v w'=>v= .int .i64 (S.mark id o).2/\Sep E (Tab t (S.mark id o).1::L) w'):=by
 apply aqD
 unfold aj1
 refine Al.i h (fun b w1 h1=>use (azi id o b h1.swap) ?_)
 rintro v w' ⟨rfl,h2⟩
 exact ⟨_,rfl,rfl,h2⟩
theorem aCf (g:Int×Int ->Option Int) (k:Int×Int) (v:Option Int):upd (fun k=>(g k).map encI) k (v.map encI)=fun x=>(upd g k v x).map encI:=by
 funext x;unfold upd;split<;>rfl
theorem aGS (g:Int×Int ->Option Int) (k:Int×Int):upd (fun k=>(g k).map encI) k none=fun x=>(upd g k none x).map encI:=aCf g k none
theorem aGT (g:Int×Int ->Option Int) (k:Int×Int) (v:Int):upd (fun k=>(g k).map encI) k (some (Value.int .i64 v))=fun x=>(upd g k (some v) x).map encI:=aCf g k (some v)
theorem am1 {t:Nat} {S:TS} (id place at_:Int) (h:Sep E (Tab t S::L) w):Calls P ac4 #[.pointer (some ⟨t,0,none⟩),.int .i64 id,.int .i64 place,.int .i64 at_] w
  (Ret fun v w'=>v= .int .i64 (S.put id place at_).2/\Sep E (Tab t (S.put id place at_).1::L) w'):=by
 have h0:=h
 obtain ⟨mp,mf,ms,a,h⟩:=Tab.open h
 apply arZ
 unfold alm
 refine ⟨_,rfl,some mp,by rw [aad];exact (h.cellAt 0 rfl _).trans rfl,_,aiH 1 h rfl id,?_⟩
 unfold TS.put
 cases hg:S.pg id with
 | none=>exact bifT ⟨rfl,h0⟩
 | some p=>
  dsimp only
  have bad:∀ {r:TS×Int},(place<0\/2<place\/at_<0\/(place=0/\at_≠0)) ->(Value.int .i64 1= .int .i64 (if place<0\/2<place\/at_<0\/(place=0/\at_≠0) then (S,(1:Int)) else r).2/\Sep E (Tab t (if place<0\/2<place\/at_<0\/(place=0/\at_≠0) then (S,(1:Int)) else r).1::L) w):=by
   intro r hb;rw [if_pos hb];exact ⟨rfl,h0⟩
  refine bifF (bLt (fun c=>bad (.inl c)) (fun c1=>bGt (fun c=>bad (.inr (.inl c))) (fun c2=>bLt (fun c=>bad (.inr (.inr (.inl c)))) (fun c3=>bEq (fun e=>bNe (fun c=>bad (.inr (.inr (.inr ⟨e,c⟩)))) (fun e2=> ?_)) (fun e=> ?_)))))
  all_goals
   have hno:¬ (place<0\/2<place\/at_<0\/(place=0/\at_≠0)):=by omega
   rw [if_neg hno]
   refine use (c_At place at_ h0) ?_
   rintro _ w1 ⟨rfl,rfl⟩
   refine ⟨_,rfl,?_⟩
   refine bGe (fun g1=>bNe (fun g2=> ?_) (fun g2=> ?_)) (fun g1=> ?_)
   ·rw [if_pos ⟨g1,g2⟩];exact ⟨rfl,h0⟩
   all_goals
    rw [if_neg (by omega)]
    have h3:=Tab.page (mp:=mp) hg h
    refine Dr.i h3 (fun w2 h4=> ?_)
    refine ⟨_,rfl,some ms,by rw [aad];exact (h4.cellAt 2 rfl _).trans rfl,_,rfl,p.place,by rw [aad];exact (h4.cellAt 0 rfl _).trans rfl,_,rfl,p.at_,by rw [aad];exact (h4.cellAt 0 rfl _).trans rfl,?_⟩
    refine mapDelete.i (h4.ro 6 [5,0,1,2,3,4] rfl) aAE (z:= .int .i64 0) (by kernel_rfl) (p.place,p.at_) (fun w3 h5=> ?_)
    rw [aGS S.spots (p.place,p.at_)] at h5
    refine ⟨_,rfl,St.j h5.swap (show 2<9 by decide) (fun w4 h6=> ?_)⟩
    refine ⟨_,rfl,St.j h6 (show 3<9 by decide) (fun w5 h7=> ?_)⟩
    have h8:=famA.back (h7.ro 6 [0,2,1,3,4,5] rfl)
    have fin:∀ {sp:Int×Int ->Option Int} {w6:World},Sep E (famA (setA (pgF S a) id (blk (a id) ((p.vs.set (0+2) (.int .i64 place)).set (0+3) (.int .i64 at_))))::
      mapF ms encK (fun k=>(sp k).map encI)::blk t [.map (some mp),.map (some mf),.map (some ms),.int .i64 S.next]::mapF mp encI (ptrF S a)::mapF mf encK (fun k=>(S.files k).map encI)::L) w6 ->
      Sep E (Tab t {pg:=upd S.pg id (some {p with place:=place,at_:=at_}),files:=S.files,spots:=sp,next:=S.next} ::L) w6:=by
     intro sp w6 h9
     have e:setA (pgF S a) id (blk (a id) ((p.vs.set (0+2) (.int .i64 place)).set (0+3) (.int .i64 at_)))=pgF {pg:=upd S.pg id (some {p with place:=place,at_:=at_}),files:=S.files,spots:=sp,next:=S.next} a:=
      (as3 (S':= {pg:=upd S.pg id (some {p with place:=place,at_:=at_}),files:=S.files,spots:=sp,next:=S.next}) rfl).symm
     have e2:ptrF S a=ptrF {pg:=upd S.pg id (some {p with place:=place,at_:=at_}),files:=S.files,spots:=sp,next:=S.next} a:=(apA rfl hg).symm
     rw [e,e2] at h9
     exact Tab.shut (S:= {pg:=upd S.pg id (some {p with place:=place,at_:=at_}),files:=S.files,spots:=sp,next:=S.next}) (h9.ro 5 [2,3,4,1,0] rfl)
    refine bNe (fun hz=> ?_) (fun hz=> ?_)
    ·refine ⟨_,rfl,some ms,by rw [aad];exact (h8.cellAt 2 rfl _).trans rfl,?_⟩
     refine mapUpdate.i (h8.ro 5 [1,0,2,3,4] rfl) aAE (z:= .int .i64 0) (by kernel_rfl) (place,at_) _ (fun w6 h9=>⟨rfl,?_⟩)
     rw [aGT (upd S.spots (p.place,p.at_) none) (place,at_) id] at h9
     rw [if_pos hz]
     exact fin h9.swap
    ·rw [if_neg (by simpa using hz)]
     exact ⟨rfl,fin h8⟩
structure aAu (S:TS) (l:List Int):Prop where
 rise:l.Pairwise (· < ·)
 mem:∀ k,k∈l↔(S.pg k).isSome=true
def few (S:TS) (N:Nat):Prop:=∀ k,(S.pg k).isSome=true ->0<=k/\k<N
theorem aAu.le {S:TS} {l:List Int} {N:Nat} (h:aAu S l) (hf:few S N):l.length<=N:=
 ahD N l (List.nodup_iff_pairwise_ne.2 (h.rise.imp (fun hlt he=>by omega))) (fun x hx=>hf x ((h.mem x).1 hx))
theorem aEV {t:Nat} {S:TS} {N:Nat} (hN:few S N) (hb:N<=17592186044416) (h:Sep E (Tab t S::L) w):
  Calls P aea #[.pointer (some ⟨t,0,none⟩)] w (Ret fun v w'=>∃ (s:Sl) (l:List Int),v= .slice s.p s.n s.c/\s.n=l.length/\aAu S l/\Sep E (rowA s 1 (intL l)::Tab t S::L) w'):=by
 obtain ⟨mp,mf,ms,a,h⟩:=Tab.open h
 refine use (aIy (f:=ptrF S a) h (i:=0) (q:=1) rfl rfl rfl (N:=N) (fun k v hk=> ?_) hb) ?_
 ·refine hN k ?_
  unfold ptrF at hk
  cases hg:S.pg k with
  | none=>rw [hg] at hk;cases hk
  | some p=>rfl
 ·rintro v w1 ⟨s,l,rfl,hn,hl,h1⟩
  refine ⟨_,rfl,s,l,rfl,hn,⟨hl.rise,fun k=> ?_⟩,?_⟩
  ·rw [hl.mem k];unfold ptrF;cases S.pg k<;>simp
  ·have h2:=Tab.shut (L:=rowA s 1 (intL l)::L) (h1.ro 6 [1,2,3,4,5,0] rfl)
   exact h2.swap
def apl (S:TS) (o:Int) (id:Int):Bool:=match S.pg id with
 | some p=>p.owner !=o
 | none=>true
theorem aHs {t:Nat} {S:TS} {N:Nat} (o:Int) (hN:few S N) (hb:N<=17592186044416) (h:Sep E (Tab t S::L) w):
  Calls P agE #[.pointer (some ⟨t,0,none⟩),.int .i64 o] w (Ret fun v w'=>∃ (s:Sl) (l:List Int),v= .slice s.p s.n s.c/\aAu S l/\s.n=(l.filter fun x=> !apl S o x).length/\Sep E (rowA s 1 (intL (l.filter fun x=> !apl S o x))::Tab t S::L) w'):=by
 apply apw
 unfold ajE
 refine Al.i h (fun p1 w1 h1=>Al.i h1 (fun p3 w2 h2=> ?_))
 refine ⟨_,(h2.cellAt 1 rfl _).trans rfl,?_⟩
 have h3:Sep E (Tab t S::blk p3 [.int .i64 o]::blk p1 [.pointer (some ⟨t,0,none⟩)]::L) w2:=h2.ro 3 [2,0,1] rfl
 refine use (aEV hN hb h3) ?_
 rintro _ w3 ⟨s,l,rfl,hn,hl,h4⟩
 refine ⟨s,rfl,?_⟩
 have hlen:=hl.le hN
 refine use (arj (L:=Tab t S::blk p3 [.int .i64 o]::blk p1 [.pointer (some ⟨t,0,none⟩)]::L) (q:=apl S o) ?_ hn (by omega) h4) ?_
 ·intro m hm x w5 hx h5
  obtain ⟨p,hp⟩:=Option.isSome_iff_exists.1 ((hl.mem x).1 hx)
  refine ⟨afz,_,rfl,by kernel_rfl,?_⟩
  refine use (K:=fun v w'=>v= .bool (apl S o x)/\Sep E (rowA s 1 (intL m)::Tab t S::blk p3 [.int .i64 o]::blk p1 [.pointer (some ⟨t,0,none⟩)]::L) w') (anR x ⟨p1,0,none⟩ ⟨p3,0,none⟩ ?_) ?_
  ·unfold ait
   refine Dr.i h5 (fun w6 h6=> ?_)
   obtain ⟨mp,mf,ms,a,h7⟩:=Tab.open (h6.fr 1 rfl)
   refine ⟨_,(h6.cellAt 3 rfl _).trans rfl,_,rfl,some mp,by rw [aad];exact (h7.cellAt 0 rfl _).trans rfl,_,aiH 1 h7 rfl x,?_⟩
   rw [hp]
   have h8:=Tab.page (mp:=mp) hp h7
   refine ⟨_,rfl,p.owner,by rw [aad];exact (h8.cellAt 0 rfl _).trans rfl,o,(h6.cellAt 2 rfl _).trans rfl,?_,h6⟩
   unfold apl;rw [hp]
  ·rintro v w' ⟨rfl,h6⟩;exact ⟨rfl,h6⟩
 ·rintro _ w4 ⟨s',rfl,hn',h5⟩
  have h6:=(h5.fr 2 rfl).tail
  exact ⟨s',rfl,s',l,rfl,hl,hn',(h6.fr 2 rfl).tail⟩
end Go.Mp.Tp
end
section
set_option maxRecDepth 100000
namespace Go.Mp
open Go Go.Vc Go.Sp Go.Stab
section
variable {E:Env} {L:List Asn} {w:World} {s:Sl} {cmp:Value} {lt:Int ->Int ->Bool} {n:Nat} {R b:Int ->Int ->Prop}
theorem getX {A X Y B:List Int} {k:Nat} (hk:k<X.length):(A++X++Y++B)[A.length+k]? =X[k]? :=by
 rw [List.append_assoc,List.append_assoc,getA,List.getElem?_append_left hk]
theorem getY {A X Y B:List Int} {k:Nat} (hk:k<Y.length):(A++X++Y++B)[A.length+X.length+k]? =Y[k]? :=by
 have:A.length+X.length+k=(A++X).length+k:=by simp
 rw [this,List.append_assoc,getA,List.getElem?_append_left hk]
theorem ajd (K:agp R b lt) (hbig:n<1152921504606846976) (hn:s.n=n) (hc:Cmps E L s cmp lt n):∀ (N:Nat) {A X Y B:List Int} {w:World},X.length+Y.length<=N ->1<=X.length ->1<=Y.length ->
  X.Pairwise R ->Y.Pairwise R ->(∀ x∈X,∀ y∈Y,b x y) ->(A++X++Y++B).length=n ->Sep E (rowA s 1 (intL (A++X++Y++B))::L) w ->∀ {a m e:Int},a=A.length ->m=A.length+X.length ->e=A.length+X.length+Y.length ->
  Calls P abu #[.slice s.p s.n s.c,.int .i64 a,.int .i64 m,.int .i64 e,cmp] w (Ret fun v w'=>v= .tuple #[]/\∃ Z,Z.Perm (X++Y)/\Z.Pairwise R/\Sep E (rowA s 1 (intL (A++Z++B))::L) w'):=by
 intro N
 induction N with
 | zero=>intro A X Y B w h1 h2;omega
 | succ N ih=>
 intro A X Y B w hN hX1 hY1 hX hY hb hll h a m e ha hm he
 subst ha hm he
 have hlen:(A++X++Y++B).length=A.length+X.length+Y.length+B.length:=by simp only [List.length_append]
 rw [hlen] at hll
 have hl1:s.n=(A++X++Y++B).length:=by omega
 apply ajQ
 unfold afA
 rw [w64 (n:=(A.length:Int)+X.length - A.length) (by omega) (by omega),w64 (n:=(A.length:Int)+X.length+Y.length - (A.length+X.length)) (by omega) (by omega)]
 refine bEq (fun h1=> ?_) (fun hne1=>bEq (fun h2=> ?_) (fun hne2=> ?_))
 ·
  obtain ⟨x,rfl⟩:∃ x,X= [x]:=by
   match X,hX1,h1 with
   | [x],_,_=>exact ⟨x,rfl⟩
   | _::_::_,_,h=>simp at h;omega
  simp only [List.length_singleton] at*
  have hby:∀ y∈Y,b x y:=fun y hy=>hb x (by simp) y hy
  refine ⟨fun i j w=>∃ p q:Nat,i=A.length+1+p/\j=A.length+1+q/\p<=q/\q<=Y.length/\(p=0\/∃ y,Y[p - 1]? =some y/\R y x)/\(Y.length<=q\/∃ y,Y[q]? =some y/\R x y)/\Sep E (rowA s 1 (intL (A++ [x]++Y++B))::L) w,
   fun i j _=>(j - i).toNat,⟨0,Y.length,by omega,by omega,by omega,by omega,.inl rfl,.inl (Nat.le_refl _),h⟩,?_⟩
  rintro _ i j w1 ⟨p,q,rfl,rfl,hpq,hq,hp1,hq1,h1⟩
  refine bLt (fun hlt=>⟨by decide,Dr.i h1 (fun w2 h2=> ?_)⟩) (fun hge=> ?_)
  ·have hh:((A.length:Int)+1+p+(A.length+1+q)) / 2=((A.length+1+(p+q) / 2:Nat):Int):=by omega
   rw [half (by omega) (by omega),hh]
   have hc':(p+q) / 2<Y.length:=by omega
   have hy:Y[(p+q) / 2]? =some (Y[(p+q) / 2]'hc'):=List.getElem?_eq_getElem hc'
   generalize Y[(p+q) / 2]'hc'=y at hy
   have hyY:y∈Y:=List.mem_of_getElem? hy
   refine elL (A.length+1+(p+q) / 2) h2 hl1 rfl ((getY (A:=A) (X:= [x]) (B:=B) hc').trans hy) (elL (A.length+0) h2 hl1 (by omega) (by rw [getX (by simp)];rfl) ?_)
   refine hc.i (by omega) h2 (fun ht w3 h3=> ?_) (fun hf w3 h3=> ?_)
   ·rw [w64 (by omega) (by omega)]
    exact ⟨⟨(p+q) / 2+1,q,by omega,rfl,by omega,hq,.inr ⟨y,by simpa using hy,(K.ask x y (hby y hyY)).1 ht⟩,hq1,h3⟩,by dsimp only;omega⟩
   ·exact ⟨⟨p,(p+q) / 2,rfl,by omega,by omega,by omega,hp1,.inr ⟨y,hy,K.no (hby y hyY) hf⟩,h3⟩,by dsimp only;omega⟩
  ·have hpe:p=q:=by omega
   subst hpe
   rw [w64 (n:=(A.length:Int)+1+p - 1) (by omega) (by omega)]
   have e0:A++ [x]++Y++B=A++ins Y 0 x++B:=by simp [ins]
   rw [e0] at h1
   refine ⟨fun k w=>∃ t:Nat,k=A.length+t/\t<=p/\Sep E (rowA s 1 (intL (A++ins Y t x++B))::L) w,fun k _=>(A.length+p - k).toNat,⟨0,by omega,by omega,h1⟩,?_⟩
   rintro _ k w2 ⟨t,rfl,ht,h2⟩
   have hl2:s.n=(A++ins Y t x++B).length:=by
    have:=acZ Y t x
    simp only [List.length_append,this];omega
   refine bLt (fun hlt=>Dr.i h2 (fun w3 h3=> ?_)) (fun hge=> ?_)
   ·rw [w64 (n:=(A.length:Int)+t+1) (by omega) (by omega)]
    have hy:Y[t]? =some (Y[t]'(by omega)):=List.getElem?_eq_getElem (by omega)
    generalize Y[t]'(by omega)=y at hy
    refine elL (A.length+(t+1)) h3 hl2 (by omega) (by rw [aef (by omega) (by omega),if_neg (by omega),if_neg (by omega)];exact hy) ?_
    refine elL (A.length+t) h3 hl2 (by omega) (by rw [aef (by omega) (by omega),if_neg (by omega),if_pos rfl]) ?_
    refine elS (A.length+t) h3 hl2 (by omega) (by omega) (fun w4 h4=>elS (A.length+t+1) h4 (by rw [List.length_set];exact hl2) (by omega) (by rw [List.length_set];omega) (fun w5 h5=> ?_))
    rw [aFy hy] at h5
    exact ⟨⟨t+1,by omega,by omega,h5⟩,by dsimp only;omega⟩
   ·have:t=p:=by omega
    subst this
    exact ⟨trivial,ins Y t x,ako Y t x,aoi K.ord hY hp1 hq1,h2⟩
 ·
  obtain ⟨y,rfl⟩:∃ y,Y= [y]:=by
   match Y,hY1,h2 with
   | [y],_,_=>exact ⟨y,rfl⟩
   | _::_::_,_,h=>simp at h;omega
  simp only [List.length_singleton] at*
  have hbx:∀ x∈X,b x y:=fun x hx=>hb x hx y (by simp)
  refine ⟨fun i j w=>∃ p q:Nat,i=A.length+p/\j=A.length+q/\p<=q/\q<=X.length/\(p=0\/∃ x,X[p - 1]? =some x/\R x y)/\(X.length<=q\/∃ x,X[q]? =some x/\R y x)/\Sep E (rowA s 1 (intL (A++X++ [y]++B))::L) w,
   fun i j _=>(j - i).toNat,⟨0,X.length,by omega,by omega,by omega,by omega,.inl rfl,.inl (Nat.le_refl _),h⟩,?_⟩
  rintro _ i j w1 ⟨p,q,rfl,rfl,hpq,hq,hp1,hq1,h1⟩
  refine bLt (fun hlt=>⟨by decide,Dr.i h1 (fun w2 h2=> ?_)⟩) (fun hge=> ?_)
  ·have hh:((A.length:Int)+p+(A.length+q)) / 2=((A.length+(p+q) / 2:Nat):Int):=by omega
   rw [half (by omega) (by omega),hh]
   have hc':(p+q) / 2<X.length:=by omega
   have hx:X[(p+q) / 2]? =some (X[(p+q) / 2]'hc'):=List.getElem?_eq_getElem hc'
   generalize X[(p+q) / 2]'hc'=x at hx
   have hxX:x∈X:=List.mem_of_getElem? hx
   refine elL (A.length+X.length+0) h2 hl1 (by omega) (by rw [getY (by simp)];rfl) (elL (A.length+(p+q) / 2) h2 hl1 rfl (by rw [getX hc'];exact hx) ?_)
   refine hc.j (by omega) h2 (fun ht w3 h3=> ?_) (fun hf w3 h3=> ?_)
   ·exact ⟨⟨p,(p+q) / 2,rfl,by omega,by omega,by omega,hp1,.inr ⟨x,hx,(K.ask x y (hbx x hxX)).1 ht⟩,h3⟩,by dsimp only;omega⟩
   ·rw [w64 (by omega) (by omega)]
    exact ⟨⟨(p+q) / 2+1,q,by omega,rfl,by omega,hq,.inr ⟨x,by simpa using hx,K.no (hbx x hxX) hf⟩,hq1,h3⟩,by dsimp only;omega⟩
  ·have hpe:p=q:=by omega
   subst hpe
   have e0:A++X++ [y]++B=A++ins X X.length y++B:=by rw [asV];simp
   rw [e0] at h1
   refine ⟨fun k w=>∃ t:Nat,k=A.length+t/\p<=t/\t<=X.length/\Sep E (rowA s 1 (intL (A++ins X t y++B))::L) w,fun k _=>(k - A.length).toNat,⟨X.length,rfl,by omega,by omega,h1⟩,?_⟩
   rintro _ k w2 ⟨t,rfl,ht,htX,h2⟩
   have hl2:s.n=(A++ins X t y++B).length:=by
    have:=acZ X t y
    simp only [List.length_append,this];omega
   refine bGt (fun hlt=>Dr.i h2 (fun w3 h3=> ?_)) (fun hge=> ?_)
   ·obtain ⟨t',rfl⟩:∃ t',t=t'+1:=⟨t - 1,by omega⟩
    rw [w64 (n:=(A.length:Int)+((t'+1:Nat):Int) - 1) (by omega) (by omega)]
    have hx:X[t']? =some (X[t']'(by omega)):=List.getElem?_eq_getElem (by omega)
    generalize X[t']'(by omega)=x at hx
    refine elL (A.length+t') h3 hl2 (by omega) (by rw [aef (by omega) (by omega),if_pos (by omega)];exact hx) ?_
    refine elL (A.length+(t'+1)) h3 hl2 (by omega) (by rw [aef (by omega) (by omega),if_neg (by omega),if_pos rfl]) ?_
    refine elS (A.length+t'+1) h3 hl2 (by omega) (by omega) (fun w4 h4=>elS (A.length+t') h4 (by rw [List.length_set];exact hl2) (by omega) (by rw [List.length_set];omega) (fun w5 h5=> ?_))
    rw [aph hx] at h5
    exact ⟨⟨t',by omega,by omega,by omega,h5⟩,by dsimp only;omega⟩
   ·have:t=p:=by omega
    subst this
    exact ⟨trivial,ins X t y,(ako X t y).trans (List.perm_append_comm (l₁:= [y]) (l₂:=X)),aoi K.ord hX hp1 hq1,h2⟩
 ·
  refine ⟨by decide,?_⟩
  obtain ⟨d,hd⟩:∃ d,d=(X.length+Y.length) / 2:=⟨_,rfl⟩
  have hmid:((A.length:Int)+(A.length+X.length+Y.length)) / 2=((A.length+d:Nat):Int):=by omega
  rw [half (by omega) (by omega),hmid]
  rw [w64 (n:=((A.length+d:Nat):Int)+(A.length+X.length)) (by omega) (by omega)]
  rw [w64 (n:=((A.length+d:Nat):Int)+(A.length+X.length) - (A.length+X.length+Y.length)) (by omega) (by omega)]
  rw [w64 (n:=((A.length+d:Nat):Int)+(A.length+X.length) - 1) (by omega) (by omega)]
  obtain ⟨lo,hlo⟩:∃ lo,lo=if X.length>d then d - Y.length else 0:=⟨_,rfl⟩
  obtain ⟨hi,hhi⟩:∃ hi,hi=if X.length>d then d else X.length:=⟨_,rfl⟩
  have hlohi:lo<=hi/\hi<=d/\hi<=X.length/\d<=lo+Y.length:=by
   rw [hlo,hhi];split<;>omega
  refine ⟨fun i j w=>i=A.length+lo/\j=A.length+hi/\Sep E (rowA s 1 (intL (A++X++Y++B))::L) w,?_,?_⟩
  ·refine bGt (fun hgt=> ?_) (fun hle=> ?_)
   ·refine ⟨?_,?_,h⟩
    ·rw [hlo,if_pos (by omega)];omega
    ·rw [hhi,if_pos (by omega)];omega
   ·refine ⟨?_,?_,h⟩
    ·rw [hlo,if_neg (by omega)];omega
    ·rw [hhi,if_neg (by omega)]
  rintro _ i0 j0 w1 ⟨rfl,rfl,h1⟩
  refine ⟨fun i j w=>∃ p q:Nat,i=A.length+p/\j=A.length+q/\lo<=p/\p<=q/\q<=hi/\(p=lo\/∃ x y,X[p - 1]? =some x/\Y[d - p]? =some y/\R x y)/\(q=hi\/∃ x y,Y[d - q - 1]? =some y/\X[q]? =some x/\R y x)/\
    Sep E (rowA s 1 (intL (A++X++Y++B))::L) w,fun i j _=>(j - i).toNat,⟨lo,hi,rfl,rfl,Nat.le_refl _,hlohi.1,Nat.le_refl _,.inl rfl,.inl rfl,h1⟩,?_⟩
  rintro _ i j w2 ⟨p,q,rfl,rfl,hp0,hpq,hqh,hp1,hq1,h2⟩
  refine bLt (fun hlt=>⟨by decide,Dr.i h2 (fun w3 h3=> ?_)⟩) (fun hge=> ?_)
  ·have hh:((A.length:Int)+p+(A.length+q)) / 2=((A.length+(p+q) / 2:Nat):Int):=by omega
   rw [half (by omega) (by omega),hh]
   rw [w64 (n:=((A.length+d:Nat):Int)+(A.length+X.length) - 1 - ((A.length+(p+q) / 2:Nat):Int)) (by omega) (by omega)]
   obtain ⟨c,hcc⟩:∃ c,c=(p+q) / 2:=⟨_,rfl⟩
   rw [<- hcc]
   have hcX:c<X.length:=by omega
   have hcY:d - 1 - c<Y.length:=by omega
   have hx:X[c]? =some (X[c]'hcX):=List.getElem?_eq_getElem hcX
   have hy:Y[d - 1 - c]? =some (Y[d - 1 - c]'hcY):=List.getElem?_eq_getElem hcY
   generalize X[c]'hcX=x at hx
   generalize Y[d - 1 - c]'hcY=y at hy
   have hbxy:=hb x (List.mem_of_getElem? hx) y (List.mem_of_getElem? hy)
   refine elL (A.length+X.length+(d - 1 - c)) h3 hl1 (by omega) (by rw [getY hcY];exact hy) (elL (A.length+c) h3 hl1 (by omega) (by rw [getX hcX];exact hx) ?_)
   refine hc.j (by omega) h3 (fun ht w4 h4=> ?_) (fun hf w4 h4=> ?_)
   ·refine ⟨⟨p,c,rfl,by omega,hp0,by omega,by omega,hp1,.inr ⟨x,y,?_,hx,(K.ask x y hbxy).1 ht⟩,h4⟩,by dsimp only;omega⟩
    rw [show d - c - 1=d - 1 - c by omega];exact hy
   ·rw [w64 (by omega) (by omega)]
    refine ⟨⟨c+1,q,by omega,rfl,by omega,by omega,hqh,.inr ⟨x,y,by simpa using hx,?_,K.no hbxy hf⟩,hq1,h4⟩,by dsimp only;omega⟩
    rw [show d - (c+1)=d - 1 - c by omega];exact hy
  ·have hpe:p=q:=by omega
   subst hpe
   obtain ⟨t,ht⟩:∃ t,t=d - p:=⟨_,rfl⟩
   have hcut:=awU K.ord (X:=X) (Y:=Y) (i:=p) (j:=t) hX hY (by
    rcases hp1 with e | ⟨x,y,e1,e2,e3⟩
    ·by_cases hg:X.length>d
     ·rw [if_pos hg] at hlo;right;left;omega
     ·rw [if_neg hg] at hlo;left;omega
    ·exact .inr (.inr ⟨x,y,e1,by rw [ht];exact e2,e3⟩)) (by
    rcases hq1 with e | ⟨x,y,e1,e2,e3⟩
    ·by_cases hg:X.length>d
     ·rw [if_pos hg] at hhi;left;omega
     ·rw [if_neg hg] at hhi;right;left;omega
    ·exact .inr (.inr ⟨x,y,by rw [ht];exact e1,e2,e3⟩))
   have ltp:(X.take p).length=p:=by simp;omega
   have ltt:(Y.take t).length=t:=by simp;omega
   have ldp:(X.drop p).length=X.length - p:=by simp
   have ldt:(Y.drop t).length=Y.length - t:=by simp
   have hend:IntKind.i64.wrap (((A.length+d:Nat):Int)+(A.length+X.length) - (A.length+p))=((A.length+X.length+t:Nat):Int):=by
    rw [w64 (by omega) (by omega)];omega
   rw [hend]
   refine ⟨fun w=>Sep E (rowA s 1 (intL (A++(X.take p++Y.take t)++(X.drop p++Y.drop t)++B))::L) w,?_,?_⟩
   ·refine ⟨fun c w=>c=decide (p<X.length/\0<t)/\Sep E (rowA s 1 (intL (A++X++Y++B))::L) w,?_,?_⟩
    ·refine bLt (fun g=>⟨?_,h2⟩) (fun g=>⟨?_,h2⟩)
     ·have:(decide ((A.length:Int)+X.length<((A.length+X.length+t:Nat):Int)))=decide (0<t):=by
       by_cases h0:0<t
       ·rw [decide_eq_true h0,decide_eq_true (by omega)]
       ·rw [decide_eq_false h0,decide_eq_false (by omega)]
      rw [this]
      by_cases h0:0<t
      ·rw [decide_eq_true h0,decide_eq_true ⟨by omega,h0⟩]
      ·rw [decide_eq_false h0,decide_eq_false (fun hh=>h0 hh.2)]
     ·exact (decide_eq_false (fun hh=>by omega)).symm
    rintro _ c w3 ⟨rfl,h3⟩
    refine bifI (fun g=> ?_) (fun g=> ?_)
    ·have g:=of_decide_eq_true g
     have e1:A++X++Y++B=(A++X.take p)++X.drop p++Y.take t++(Y.drop t++B):=by
      simp only [List.append_assoc]
      rw [<- List.append_assoc (Y.take t),List.take_append_drop,<- List.append_assoc (X.take p),List.take_append_drop]
     rw [e1] at h3
     refine use (auX (cmp:=cmp) (by omega) (by omega) (by rw [<- e1];exact hl1) (by rw [<- e1];omega) h3 (by simp only [List.length_append];omega) (by simp only [List.length_append];omega) (by simp only [List.length_append];omega)) ?_
     rintro _ w4 ⟨rfl,h4⟩
     refine ⟨rfl,?_⟩
     have e2:(A++X.take p)++Y.take t++X.drop p++(Y.drop t++B)=A++(X.take p++Y.take t)++(X.drop p++Y.drop t)++B:=by simp
     rw [<- e2];exact h4
    ·have g:=of_decide_eq_false g
     have e2:A++(X.take p++Y.take t)++(X.drop p++Y.drop t)++B=A++X++Y++B:=by
      by_cases h0:p<X.length
      ·have:t=0:=by omega
       subst this
       simp only [List.take_zero,List.append_nil,List.drop_zero,List.append_assoc]
       rw [<- List.append_assoc (X.take p),List.take_append_drop]
      ·have e3:X.drop p= []:=List.drop_of_length_le (by omega)
       have e4:X.take p=X:=List.take_of_length_le (by omega)
       rw [e3,e4,List.nil_append]
       simp only [List.append_assoc]
       rw [<- List.append_assoc (Y.take t),List.take_append_drop]
     rw [e2];exact h3
   rintro _ w3 h3
   have hXt:(X.take p).Pairwise R:=hX.sublist (List.take_sublist _ _)
   have hXd:(X.drop p).Pairwise R:=hX.sublist (List.drop_sublist _ _)
   have hYt:(Y.take t).Pairwise R:=hY.sublist (List.take_sublist _ _)
   have hYd:(Y.drop t).Pairwise R:=hY.sublist (List.drop_sublist _ _)
   refine ⟨fun w=>∃ Z1,Z1.Perm (X.take p++Y.take t)/\Z1.Pairwise R/\Sep E (rowA s 1 (intL (A++Z1++(X.drop p++Y.drop t)++B))::L) w,?_,?_⟩
   ·refine ⟨fun c w=>c=decide (0<p/\0<t)/\Sep E (rowA s 1 (intL (A++(X.take p++Y.take t)++(X.drop p++Y.drop t)++B))::L) w,?_,?_⟩
    ·refine bLt (fun g=>⟨?_,h3⟩) (fun g=>⟨?_,h3⟩)
     ·by_cases h0:0<t
      ·rw [decide_eq_true (by omega),decide_eq_true ⟨by omega,h0⟩]
      ·rw [decide_eq_false (by omega),decide_eq_false (fun hh=>h0 hh.2)]
     ·exact (decide_eq_false (fun hh=>by omega)).symm
    rintro _ c w4 ⟨rfl,h4⟩
    refine bifI (fun g=> ?_) (fun g=> ?_)
    ·have g:=of_decide_eq_true g
     have e1:A++(X.take p++Y.take t)++(X.drop p++Y.drop t)++B=A++X.take p++Y.take t++((X.drop p++Y.drop t)++B):=by simp
     rw [e1] at h4
     refine use (ih (by omega) (by omega) (by omega) hXt hYt (fun x hx y hy=>hb x (List.mem_of_mem_take hx) y (List.mem_of_mem_take hy)) (by simp only [List.length_append];omega) h4 rfl (by omega) (by omega)) ?_
     rintro _ w5 ⟨rfl,Z1,hZ1,hZ2,h5⟩
     refine ⟨rfl,Z1,hZ1,hZ2,?_⟩
     rw [List.append_assoc (A++Z1)];exact h5
    ·have g:=of_decide_eq_false g
     refine ⟨_,.refl _,?_,h4⟩
     by_cases h0:0<p
     ·have:t=0:=by omega
      subst this
      simpa using hXt
     ·have:p=0:=by omega
      subst this
      simpa using hYt
   rintro _ w4 ⟨Z1,hZ1,hZ1R,h4⟩
   have lz1:Z1.length=d:=by rw [hZ1.length_eq,List.length_append,ltp,ltt];omega
   refine ⟨fun c w=>c=decide (p<X.length/\t<Y.length)/\Sep E (rowA s 1 (intL (A++Z1++(X.drop p++Y.drop t)++B))::L) w,?_,?_⟩
   ·refine bLt (fun g=>⟨?_,h4⟩) (fun g=>⟨?_,h4⟩)
    ·by_cases h0:t<Y.length
     ·rw [decide_eq_true (by omega),decide_eq_true ⟨by omega,h0⟩]
     ·rw [decide_eq_false (by omega),decide_eq_false (fun hh=>h0 hh.2)]
    ·exact (decide_eq_false (fun hh=>by omega)).symm
   rintro _ c w5 ⟨rfl,h5⟩
   refine bifI (fun g=> ?_) (fun g=> ?_)
   ·have g:=of_decide_eq_true g
    have e1:A++Z1++(X.drop p++Y.drop t)++B=(A++Z1)++X.drop p++Y.drop t++B:=by simp
    rw [e1] at h5
    refine use (ih (by omega) (by omega) (by omega) hXd hYd (fun x hx y hy=>hb x (List.mem_of_mem_drop hx) y (List.mem_of_mem_drop hy)) (by simp only [List.length_append];omega) h5 (by simp only [List.length_append];omega) (by simp only [List.length_append];omega) (by simp only [List.length_append];omega)) ?_
    rintro _ w6 ⟨rfl,Z2,hZ2,hZ2R,h6⟩
    have:=halves hZ1 hZ2 hZ1R hZ2R hcut
    refine ⟨rfl,rfl,Z1++Z2,this.1,this.2,?_⟩
    rw [<- List.append_assoc A];exact h6
   ·have g:=of_decide_eq_false g
    have hz2:(X.drop p++Y.drop t).Pairwise R:=by
     by_cases h0:p<X.length
     ·have:Y.drop t= []:=List.drop_of_length_le (by omega)
      rw [this,List.append_nil];exact hXd
     ·have:X.drop p= []:=List.drop_of_length_le (by omega)
      rw [this,List.nil_append];exact hYd
    have:=halves hZ1 (.refl _) hZ1R hz2 hcut
    refine ⟨rfl,Z1++(X.drop p++Y.drop t),this.1,this.2,?_⟩
    rw [<- List.append_assoc A];exact h5
end
end Go.Mp
end
