/- A part of the proof. -/
import Derived.Test.YtafigbgagbolgaaGreatDoorD04
set_option linter.all false
set_option maxRecDepth 100000
open Go.IntKind(i64 u64)
open Go.Proofs.Tryz
namespace Go.Mp
open Go Go.Vc Go.Proofs
variable{K:bj0}{w:bI}
variable(K w)
def D8(s:Sl)(seq:bH):=
 Al (.cells #[Sv s] 22) (λb w2=>iJ P 13 seq #[7] (kp f109.body) (kq f109.body) .ret (((((js [Sv s,seq] 0 .nil).put (some 2) (Pv (some b))).put (some 4) (aP8)).put (some 6) seq)) w2 (λb3 a=>qc a b λd=>a.heap[b3]?=some (.deferred (some []))/\K (Sv d) (a.putObj b3 (.deferred none))) (λb4 c=>c.heap[b4]?=some (.deferred (some []))/\K (aP8) (c.putObj b4 (.deferred none)))) w
def D9(yield:bH)(e b:Addr):=
 qb w e λN=>qD w b λO=>qF ku #[Pv N,Iv O] w λQ M=>qd M λc f=>cond Q (qD f b λs=>cond (decide (s≥0)) (qD f b λt=>yj P none yield #[Iv t] f λm g=>∃h,m=.returned (.bool h)/\dO h (K aP4 g) (Dr (λa=>(qb a e λi=>(NN i λd=>((qK a d 0 λu=>(qD a b λv=>(qW u v 2 λa20=>((qL a a20 0 λx=>(St b (Iv x) (λn=>(([]:bA Nat)= []/\(c n))) a)/\True)/\True)/\True)/\True)/\True)/\((qD a b λy=>(qK a d 0 λz=>(qW z y 2 λa25=>((qL a a25 0 λA=>(St b (Iv A) (λo=>(([]:bA Nat)= []/\(c o))) a)/\True)/\True)/\True)/\True)/\True)/\True))/\((qD a b λB=>((qK a d 0 λC=>(qW C B 2 λj=>((qL a j 0 λD=>(St b (Iv D) (λp=>(([]:bA Nat)= []/\(c p))) a)/\True)/\True)/\True)/\True)/\True)/\True)/\True))/\((qD a b λE=>(NN i λk=>((qK a k 0 λF=>(qW F E 2 λa36=>((qL a a36 0 λG=>(St b (Iv G) (λq=>(([]:bA Nat)= []/\(c q))) a)/\True)/\True)/\True)/\True)/\True)/\True)/\True)/\True))/\((qD a b λH=>(qb a e λI=>(NN I λa41=>((qK a a41 0 λJ=>(qW J H 2 λl=>((qL a l 0 λL=>(St b (Iv L) (λr=>(([]:bA Nat)= []/\(c r))) a)/\True)/\True)/\True)/\True)/\True)/\True)/\True)/\True)/\True)) g)) (K aP4 f)) (K aP4 f)
def LN(n:Int):=
 0<=(6:Int)/\∃b:Sl,∃a:bI,Sem.run P (Instr.makeSlice 179 (Iv ((i64.wrap ((i64.wrap ((min1 (eR n 0) 65536)+64))-1)).fdiv (2^(min (6:Int).toNat 64)))) (Iv ((i64.wrap ((i64.wrap ((min1 (eR n 0) 65536)+64))-1)).fdiv (2^(min (6:Int).toNat 64))))) w=.ok (Sv b) a/\Al (.cells #[Iv (min1 (eR n 0) 65536),Sv b] 181) (λc d=>K (Pv (some c)) d) a
def LO(t:cm)(parent:Int):=
 qF ku #[Pv t,Iv parent] w λm h=>dO m (K (.tuple #[Iv (-1),Iv 2]) h) (qQ Df #[Pv t,Iv parent] h λn a=>cond (decide (n≥7)) (K (.tuple #[Iv (-1),Iv 21]) a) (NN t λl=>qK a l 0 λo=>cond (decide (((o.n:Nat):Int)≥64)) (K (.tuple #[Iv (-1),Iv 3]) a) (NN t λa9=>qK a a9 0 λj=>Al (.cells #[Iv parent,.bool true] 133) (λg i=>∃d:Sl,∃b:bI,Sem.run P (Builtin.append_ #[97,97] 97 #[Sv j,.slice (some g) 1 1]) i=.ok (Sv d) b/\NN t λe=>St (e.add 0) (Sv d) (λc=>NN t λf=>qK c f 0 λk=>K (.tuple #[Iv (i64.wrap (((k.n:Nat):Int)-1)),Iv 0]) c) b) a)))
def LP(t:cm)(g:Int):=
 qF ku #[Pv t,Iv g] w λc a=>dO c (K (Iv (-1)) a) (NN t λa4=>qK a a4 0 λd=>qW d g 2 λb=>qL a b 0 λe=>K (Iv e) a)
def LQ(t:cm)(g:Int):=
 cond (g==0) (K (Iv 1) w) (qF ku #[Pv t,Iv g] w λe b=>dO e (K (Iv 2) b) (qJ J3 #[Pv t,Iv g] b λf a=>cond (decide (((f.n:Nat):Int)>0)) (K (Iv 4) a) (NN t λd=>qK a d 0 λh=>qW h g 2 λa9=>St (a9.add 1) (.bool false) (λc=>K (Iv 0) c) a)))
def LR(t:cm)(owner:Int):=
 Al (.cells #[Pv t] 80) (λa w2=>qC #[Iv owner] w2 λd b=>qb b a λg=>qJ vA #[Pv g] b λh e=>qJ Dg #[Sv h,(.func (.func J4) #[] #[Pv (some a),Pv (some d)])] e λc f=>K (Sv c) f) w
def LS(t:cm)(id owner:Int):=
 qC #[Iv owner] w λa w2=>qQ yU #[Pv t,Iv id,(.func (.func Dh) #[] #[Pv (some a)])] w2 λc b=>K (Iv c) b
def LU(l:cm)(a c:Int):=
 qC #[Iv c] w λb w2=>qg (λe=>qD w2 b λh=>ej h 0 (K (Iv 0) w2) (qD w2 b λi=>cond (decide (i>16777216)) (K (Iv 0) w2) (e w2))) λf=>qQ Di #[Pv l,Iv a,(.func (.func J5) #[] #[Pv (some b)])] f λd g=>K (Iv d) g
def LV(c:cm)(chain:Sl)(n:Int):=
 qC #[Iv n] w λf w2=>qD w2 f λq=>qF Dj #[Sv chain,Iv q] w2 λr l=>dO r (K (Iv 1) l) (qQ Dk #[Pv c,Sv chain,(.func (.func Dl) #[] #[Pv (some f)])] l λs m=>cond (decide (s≥0)) (K (Iv 2) m) (qO 0 m λg d a=>e7 d chain.n (qW chain d 1 λh=>qD a h λe=>Dr (λb=>NN c λi=>cF (some (i.add 0)) 64 e 4 λj=>qL b j 0 λo=>qD b f λp=>NN c λa22=>cF (some (a22.add 0)) 64 e 4 λa23=>St (a23.add 0) (Iv (i64.wrap (o-p))) (λk=>(g (i64.wrap (d+1)) k)) b) a) (K (Iv 0) a)))
def LW(c:cm)(g n:Int):=
 qg (λh=>qF yL #[Iv g] w λi e=>dO i (K (Iv 1) e) (qF Dm #[Iv n] e λj f=>dO j (K (Iv 1) f) (h f))) λw2=>NN c λa=>cF (some (a.add 0)) 64 g 4 λb=>St (b.add 1) (Iv n) (λd=>K (Iv 0) d) w2
def LX(t:cm)(g:Int):=
 Al (.cells #[Pv t] 62) (λa w2=>qC #[Iv g] w2 λd b=>qb b a λi=>qD b d λj=>qF ku #[Pv i,Iv j] b λk c=>dO k (K (aP8) c) (qb c a λf=>qJ Dn #[Pv f,(.func (.func Dp) #[] #[Pv (some a),Pv (some d)])] c λh e=>K (Sv h) e)) w
def LY(l:cm)(group:Int):=
 qQ Di #[Pv l,Iv group,(.func (.func J6) #[] #[])] w λb a=>K (Iv b) a
def LZ(c:cm)(target:Int)(own:bH):=
 NN c λai=>qK w ai 12 λU=>qf ⟨none,0,0⟩ 0 w λah f e x=>e7 e U.n (qW U e 3 λa9=>qa x a9 λO Q R=>qx x λg E=>qU [Iv O,Iv Q,.bool R] g E λh=>NN c λz=>qK h z 13 λS=>qW S e 1 λA=>qD h A λT=>qi h λa F=>qU [Iv T,Iv 0,Iv 0] a F λj=>qg (λi=>NN c λa26=>qZ j a26 0 λV=>qF ku #[Pv V,Iv e] j λW l=>cond W (Dr (λm=>qa m g λr s t=>qQ ti #[Pv c,Iv e] m λX n=>qa n g λY Z aa=>((.agg #[Iv Y,Iv Z,.bool aa]):bH)=(.agg #[Iv r,Iv s,.bool t])/\fe P own #[.agg #[Iv r,Iv s,.bool t]] n λC G=>∃u,C=.returned (Iv u)/\St (a.add 1) (Iv X) (λH=>St (a.add 2) (Iv u) (λI=>i I) H) G) l) (i l)) λk=>ql k a λab ad ae=>Al (.cells #[Iv ab,Iv ad,Iv ae] 247) (λD J=>∃v:Sl,∃o:bI,Sem.run P (Builtin.append_ #[245,245] 245 #[Sv f,.slice (some D) 1 1]) J=.ok (Sv v) o/\(ah v (i64.wrap (e+1)) o)) k) (qJ J7 #[Sv f,Iv target] x λaf L=>∃b:Sl,∃p:bI,Sem.run P (Instr.makeSlice 194 (Iv ((f.n:Nat):Int)) (Iv ((f.n:Nat):Int))) L=.ok (Sv b) p/\qO 0 p λy d q=>e7 d b.n (qF Dq #[Sv f,Sv af,Iv target,Iv d] q λag M=>qW b d 1 λB=>St B (.bool ag) (λN=>(y (i64.wrap (d+1)) N)) M) (K (Sv b) q))
def W6(a b:Int)(c:Bool):=
 Al (.cells #[Iv a,Iv b,.bool c] 189) (λd w2=>qL w2 d 0 λe=>K (Iv e) w2) w
def W7(a b:Int)(c:Bool):=
 Al (.cells #[Iv a,Iv b,.bool c] 189) (λd w2=>qL w2 d 1 λe=>K (Iv e) w2) w
def L1(l:cm)(group:Int):=
 NN l λr=>qM w r 0 λs=>∃b:cm,∃o:bI,Sem.run P (Instr.range 140 (.map s)) w=.ok (Pv b) o/\qO 0 o λi n9 p=>(∃f:bI,Sem.run P (Instr.next (Pv b) false 0) p=.ok (.tuple #[.bool false]) f/\K (Iv n9) f)\/(∃j:bH,∃m:bH,∃g:bI,Sem.run P (Instr.next (Pv b) false 0) p=.ok (.tuple #[.bool true,j,m]) g/\∃k:bH,∃d:Int,∃e:Int,∃h:bI,Sem.run P (Instr.entry (Pv b)) g=.ok (.tuple #[k,.agg #[Iv d,Iv e]]) h/\qw h λc n=>qU [Iv d,Iv e] c n λa=>qL a c 0 λq=>cond (q==group) ((i (i64.wrap (n9+1)) a)) ((i n9 a)))
def L2(n:Int)(weights:Sl):=
 qF Ds #[Iv n,Sv weights] w λai Q=>dO ai (K (aP8) Q) (Dr (λT=>(∃j:Sl,∃W:bI,Sem.run P (Instr.makeSlice 22 (Iv ((weights.n:Nat):Int)) (Iv ((weights.n:Nat):Int))) T=.ok (Sv j) W/\qJ vI #[Sv weights] W λm ah=>qO n ah λz n14 p=>qg (λD=>cond (decide (n14>0)) (qQ vJ #[Sv m] p λaa q=>cond (decide (aa>0)) (D q) (K (Sv j) q)) (K (Sv j) p)) λR=>qJ yV #[Iv n14,Sv m] R λx S=>qI n14 0 S λA n28 a c=>e7 a x.n (qW x a 1 λF=>qD c F λh=>qW m a 1 λa32=>qD c a32 λi=>qW j a 1 λG=>qD c G λab=>qW j a 1 λa36=>St a36 (Iv (i64.wrap (ab+(min1 h i)))) (λr=>qW m a 1 λH=>qD r H λad=>qW m a 1 λa40=>St a40 (Iv (i64.wrap (ad-(min1 h i)))) (λU=>(A (i64.wrap (n28-(min1 h i))) (i64.wrap (a+1)) U)) r) c) ((z n28 c)))/\(qJ vI #[Sv weights] T λe V=>∃f:Sl,∃s:bI,Sem.run P (Instr.makeSlice 22 (Iv ((weights.n:Nat):Int)) (Iv ((weights.n:Nat):Int))) V=.ok (Sv f) s/\qO n s λB g t=>qg (λE=>cond (decide (g>0)) (qQ vJ #[Sv e] t λae u=>cond (decide (ae>0)) (E u) (K (Sv f) u)) (K (Sv f) t)) λX=>qJ yV #[Iv g,Sv e] X λy Y=>qI g 0 Y λC o b d=>e7 b y.n (qW y b 1 λI=>qD d I λk=>qW e b 1 λJ=>qD d J λl=>qW f b 1 λL=>qD d L λaf=>qW f b 1 λM=>St M (Iv (i64.wrap (af+(min1 k l)))) (λv=>qW e b 1 λN=>qD v N λag=>qW e b 1 λO=>St O (Iv (i64.wrap (ag-(min1 k l)))) (λZ=>(C (i64.wrap (o-(min1 k l))) (i64.wrap (b+1)) Z)) v) d) ((B o d)))) Q)
def L3(c:cm)(target:Int):=
 NN c λa=>qZ w a 0 λe=>qJ tp #[Pv e,Iv target] w λf b=>qF yQ #[Pv c,Iv target,Sv f,.bool true] b λg d=>K (.bool g) d
def L4(s:cm):=
 NN s λa=>qK w a 0 λb=>K (Iv ((b.n:Nat):Int)) w
def L5(s:cm)(file:Int):=
 qg (λa=>ej file 0 (K (Iv 0) w) (NN s λa4=>qK w a4 0 λd=>cond (decide (file≥((d.n:Nat):Int))) (K (Iv 0) w) (a w))) λw2=>NN s λb=>qK w2 b 0 λe=>qW e file 1 λc=>qD w2 c λf=>K (Iv f) w2
def L6(c:cm)(j k g:Int):=
 Al (.cells #[Iv j,Iv k] 54) (λp w2=>qg (λL=>Dr (λq=>NN c λM=>qZ q M 7 λO=>zZ q p λP y=>zQ yZ #[Pv O,.agg #[Iv P,Iv y]] q λQ z d=>cond (z !=0) (K (.tuple #[Iv (-1),Iv (-1),Iv 2]) d) (NN c λr=>qZ d r 0 λA=>qF ku #[Pv A,Iv g] d λB m=>dO B (K (.tuple #[Iv (-1),Iv (-1),Iv 2]) m) (L m))) w2) λN=>Dr (λe=>NN c λs=>qZ e s 10 λC=>zZ e p λD E=>qQ Dz #[Pv C,.agg #[Iv D,Iv E]] e λh n=>q9 (λl=>ej h 0 (Dr (λf=>NN c λa33=>qZ f a33 10 λF=>zZ f p λG H=>qj DA #[Pv F,.agg #[Iv G,Iv H],Iv g] f λI R v=>l I v) n) (l h n)) λa u=>qj Dy #[Pv c,Iv a,Iv g] u λo i b=>cond (i==0) (K (.tuple #[Iv a,Iv (-1),Iv 0]) b) (ej h 0 (NN c λt=>qZ b t 10 λJ=>qQ Da #[Pv J,Iv a] b λS x=>K (.tuple #[Iv (-1),Iv o,Iv i]) x) (K (.tuple #[Iv (-1),Iv o,Iv i]) b))) N) w
def L7(c:cm)(id:Int):=
 NN c λm=>qZ w m 10 λo=>qX p9 #[Pv o,Iv id] w λp q r s t g h i j k n=>qV n λb e=>qU [Iv p,Iv q,Iv r,Iv s,Iv t,Iv g,Iv h,.bool i,.bool j] b e λf=>Dr (λa=>qL a b 3 λd=>cond (k==0) (qL a b 2 λl=>K (.tuple #[Iv d,.bool (l==1)]) a) (K (.tuple #[Iv d,.bool false]) a)) f
def L8(s:cm)(i a:Int):=
 qR tt #[Pv s,Iv i] w λc b=>cond c.isNone (K (.tuple #[.int .u8 0,Iv 1]) b) (ej a 0 (K (.tuple #[.int .u8 0,Iv 1]) b) (cond (decide (a≥16)) (K (.tuple #[.int .u8 0,Iv 1]) b) (NN c λa4=>cF (some a4) 16 a 1 λa5=>∃d:Int,b.cell? a5=some (.int .u8 d)/\K (.tuple #[.int .u8 d,Iv 0]) b)))
def L9(l:cm)(id:Int):=
 NN l λk=>qM w k 0 λn=>∃h:Int,∃i:Int,∃j:Bool,gE P 140 (.map n) (Iv id) true w (.tuple #[.agg #[Iv h,Iv i],.bool j])/\qw w λd m=>qU [Iv h,Iv i] d m λe=>dO j (K (Iv 2) e) (Dr (λb=>NN l λc=>qM b c 0 λf=>qL b d 0 λg=>∃a:bI,Sem.run P (Instr.mapUpdate 140 (.map f) (Iv id) (.agg #[Iv g,Iv 0])) b=.ok () a/\K (Iv 0) a) e)
def Ma(c:cm)(id g:Int):=
 NN c λH=>qZ w H 10 λJ=>qX p9 #[Pv J,Iv id] w λL M N O P l m n o p I=>qV I λb i=>qU [Iv L,Iv M,Iv N,Iv O,Iv P,Iv l,Iv m,.bool n,.bool o] b i λd=>qg (λf=>cond (p !=0) (K (.tuple #[Iv (-1),Iv (-1),Iv 2]) d) (NN c λh=>qZ d h 0 λq=>qF ku #[Pv q,Iv g] d λr a=>dO r (K (.tuple #[Iv (-1),Iv (-1),Iv 2]) a) (qL a b 2 λs=>cond (s==0) (K (.tuple #[Iv (-1),Iv (-1),Iv 2]) a) (f a)))) λe=>qY e b λt u v x y z A B C=>zJ vK #[Pv c,.agg #[Iv t,Iv u,Iv v,Iv x,Iv y,Iv z,Iv A,.bool B,.bool C]] e λD j=>zX DB #[Pv c,Iv g,.string D] j λE F G k=>K (.tuple #[Iv E,Iv F,Iv G]) k
def Mb(c:cm)(g:Int):=
 NN c λj=>qZ w j 0 λl=>qF ku #[Pv l,Iv g] w λm b=>dO m (K (.tuple #[Iv (-1),Iv (-1),Iv 2]) b) (∃h:Sl,∃a:bI,Sem.run P (Instr.makeSlice 272 (Iv 16) (Iv 16)) b=.ok (Sv h) a/\∃i:ByteArray,uZ P 272 9 (Sv h) a (.string i)/\zX DB #[Pv c,Iv g,.string i] a λd e f k=>K (.tuple #[Iv d,Iv e,Iv f]) k)
def Mc(s:cm)(i a b:Int):=
 qR tt #[Pv s,Iv i] w λd c=>cond d.isNone (K (Iv 1) c) (ej a 0 (K (Iv 1) c) (cond (decide (a≥16)) (K (Iv 1) c) (NN d λa4=>cF (some a4) 16 a 1 λa5=>St a5 (.int .u8 b) (λe=>K (Iv 0) e) c)))
def Md(t:cm)(id:Int)(fl:Bool):=
 Al (.cells #[.bool fl] 4) (λa w2=>qQ yU #[Pv t,Iv id,(.func (.func DC) #[] #[Pv (some a)])] w2 λc b=>K (Iv c) b) w
def Me(s:Sl):=
 cond s.p.isNone (K (aP8) w) (zY #[] w λc w2=>∃b:Sl,∃a:bI,Sem.run P (Builtin.append_ #[109,109] 109 #[.slice (some c) 0 0,Sv s]) w2=.ok (Sv b) a/\K (Sv b) a)
def Mf(t:cm)(id n:Int):=
 NN t λe=>qM w e 0 λh=>∃a:cm,gE P 117 (.map h) (Iv id) false w (Pv a)/\cond a.isNone (K (.tuple #[Iv 0,Iv 2]) w) (cond (decide (n<(-1000))) (K (.tuple #[Iv 0,Iv 1]) w) (cond (decide (n>1000)) (K (.tuple #[Iv 0,Iv 1]) w) (NN a λa4=>qL w a4 5 λi=>cond (decide ((i64.wrap (i+n))<0)) (K (.tuple #[Iv 0,Iv 1]) w) (NN a λf=>qL w f 5 λj=>NN a λg=>St (g.add 5) (Iv (i64.wrap (j+n))) (λc=>NN a λb=>qL c b 5 λd=>K (.tuple #[Iv d,Iv 0]) c) w))))
def Mg(c:cm)(id k l m n o p q:Int)(r s:Bool):=
 Al (.cells #[Iv k,Iv l,Iv m,Iv n,Iv o,Iv p,Iv q,.bool r,.bool s] 57) (λa w2=>qh (λj=>qL w2 (a.add 0) 0 λL=>cond (decide (L≥0)) (qy w2 a 8 λM=>j M w2) (j false w2)) λJ u=>cond J (Dr (λd=>NN c λe=>qZ d e 7 λg=>zZ d (a.add 0) λh i=>qY d a λv x y z A B C D E=>zJ vK #[Pv c,.agg #[Iv v,Iv x,Iv y,Iv z,Iv A,Iv B,Iv C,.bool D,.bool E]] d λF b=>zZ b (a.add 0) λG H=>((.agg #[Iv G,Iv H]):bH)=(.agg #[Iv h,Iv i])/\qG b e 7 (Pv g) λN=>qQ DD #[Pv g,.agg #[Iv h,Iv i],.string F] b λO f=>NN c λa32=>qZ f a32 10 λI=>qQ C6 #[Pv I,Iv id,.bool false] f λP t=>K aP4 t) u) (K aP4 u)) w
def Mh(c d e:cm)(a:Int)(chain:Sl):=
 Al (.cells #[Pv c,Pv d,Pv e] 76) (λb w2=>qZ w2 b 1 λj=>qQ Kk #[Pv j,Iv a] w2 λn g=>qZ g b 0 λk=>qQ Kl #[Pv k,Iv a] g λl h=>qZ h b 2 λi=>qQ tn #[Pv i,Sv chain,Iv 1] h λm f=>K aP4 f) w
def Mi(l:cm)(id:Int):=
 NN l λg=>qM w g 0 λj=>∃d:Int,∃e:Int,∃f:Bool,gE P 140 (.map j) (Iv id) true w (.tuple #[.agg #[Iv d,Iv e],.bool f])/\qw w λh i=>qU [Iv d,Iv e] h i λb=>dO f (K (Iv 2) b) (NN l λa9=>qM b a9 0 λc=>∃a:bI,Sem.run P (Builtin.delete_ #[140,3] 0 #[.map c,Iv id]) b=.ok (.tuple #[]) a/\K (Iv 0) a)
def Mj(t:cm)(id place a:Int):=
 NN t λak=>qM w ak 0 λam=>∃b:cm,gE P 117 (.map am) (Iv id) false w (Pv b)/\cond b.isNone (K (Iv 2) w) (ej place 0 (K (Iv 1) w) (cond (decide (place>2)) (K (Iv 1) w) (ej a 0 (K (Iv 1) w) (cond (place==0) (cond (a !=0) (K (Iv 1) w) (qQ DE #[Pv t,Iv place,Iv a] w λah v=>cond (decide (ah≥0)) (cond (ah !=id) (K (Iv 4) v) (Dr (λk=>NN t λal=>qM k al 2 λan=>NN b λx=>qL k x 2 λT=>NN b λy=>qL k y 3 λU=>∃l:bI,Sem.run P (Builtin.delete_ #[120,276] 0 #[.map an,.agg #[Iv T,Iv U]]) k=.ok (.tuple #[]) l/\NN b λz=>St (z.add 2) (Iv place) (λQ=>NN b λA=>St (A.add 3) (Iv a) (λf=>cond (place !=0) (NN t λB=>qM f B 2 λV=>∃m:bI,Sem.run P (Instr.mapUpdate 120 (.map V) (.agg #[Iv place,Iv a]) (Iv id)) f=.ok () m/\K (Iv 0) m) (K (Iv 0) f)) Q) l) v)) (Dr (λc=>NN t λa23=>qM c a23 2 λW=>NN b λa25=>qL c a25 2 λX=>NN b λa27=>qL c a27 3 λY=>∃n:bI,Sem.run P (Builtin.delete_ #[120,276] 0 #[.map W,.agg #[Iv X,Iv Y]]) c=.ok (.tuple #[]) n/\NN b λC=>St (C.add 2) (Iv place) (λR=>NN b λa32=>St (a32.add 3) (Iv a) (λg=>cond (place !=0) (NN t λD=>qM g D 2 λZ=>∃o:bI,Sem.run P (Instr.mapUpdate 120 (.map Z) (.agg #[Iv place,Iv a]) (Iv id)) g=.ok () o/\K (Iv 0) o) (K (Iv 0) g)) R) n) v))) (qQ DE #[Pv t,Iv place,Iv a] w λu h=>cond (decide (u≥0)) (cond (u !=id) (K (Iv 4) h) (Dr (λd=>NN t λa41=>qM d a41 2 λaa=>NN b λE=>qL d E 2 λab=>NN b λF=>qL d F 3 λad=>∃p:bI,Sem.run P (Builtin.delete_ #[120,276] 0 #[.map aa,.agg #[Iv ab,Iv ad]]) d=.ok (.tuple #[]) p/\NN b λG=>St (G.add 2) (Iv place) (λS=>NN b λH=>St (H.add 3) (Iv a) (λi=>cond (place !=0) (NN t λI=>qM i I 2 λae=>∃q:bI,Sem.run P (Instr.mapUpdate 120 (.map ae) (.agg #[Iv place,Iv a]) (Iv id)) i=.ok () q/\K (Iv 0) q) (K (Iv 0) i)) S) p) h)) (Dr (λe=>NN t λJ=>qM e J 2 λaf=>NN b λL=>qL e L 2 λag=>NN b λM=>qL e M 3 λai=>∃r:bI,Sem.run P (Builtin.delete_ #[120,276] 0 #[.map af,.agg #[Iv ag,Iv ai]]) e=.ok (.tuple #[]) r/\NN b λa63=>St (a63.add 2) (Iv place) (λcX=>NN b λN=>St (N.add 3) (Iv a) (λj=>cond (place !=0) (NN t λO=>qM j O 2 λaj=>∃s:bI,Sem.run P (Instr.mapUpdate 120 (.map aj) (.agg #[Iv place,Iv a]) (Iv id)) j=.ok () s/\K (Iv 0) s) (K (Iv 0) j)) cX) r) h))))))
def Mk(t:cm)(id:Int):=
 NN t λk=>qM w k 0 λm=>∃b:cm,gE P 117 (.map m) (Iv id) false w (Pv b)/\cond b.isNone (K (Iv 2) w) (NN b λa4=>qL w a4 5 λn=>cond (decide (n>0)) (K (Iv 4) w) (NN b λl=>qL w l 2 λo=>cond (o !=0) (K (Iv 4) w) (Dr (λd=>NN t λa9=>qM d a9 1 λg=>NN b λe=>zZ d (e.add 0) λh i=>∃a:bI,Sem.run P (Builtin.delete_ #[119,54] 0 #[.map g,.agg #[Iv h,Iv i]]) d=.ok (.tuple #[]) a/\NN t λf=>qM a f 0 λj=>∃c:bI,Sem.run P (Builtin.delete_ #[117,3] 0 #[.map j,Iv id]) a=.ok (.tuple #[]) c/\K (Iv 0) c) w)))
variable{K w}
def tv:dU:={}
def Ea:Nat->Bool:=λd=>[].contains d
def W8(s:Sl)(seq:bH)(K:bj0)(w:bI):ni P fV gZ cD tv Ea f109 #[(.slice s.p s.n s.c),seq] K w=D8 K w s seq:=by kernel_rfl
def W9:nj P tv f109 2=true:=by kernel_rfl
def Xa(s:Sl)(seq:bH){K:bj0}{w:bI}(h:D8 K w s seq):Calls P JH #[(Sv s),seq] w (cC K):=oA mixed func109 W9 (by rw[W8];exact h)
def Ml(d:Addr)(j:Int)(c:Nat)(w:bI)(R:Ending->bi9):Prop:=
 lI c (λg=>qc g d λi=>qC #[Iv j] g λh e=>∃b:Sl,∃a:bI,Sem.run P (Builtin.append_ #[22,22] 22 #[Sv i,.slice (some h) 1 1]) e=.ok (Sv b) a/\St d (Sv b) (λf=>fg c none R f) a) w
def Xb(s:Sl)(seq:bH)(b:Addr)(c:Int)(a:Nat)(w:bI)(R:Ending->bi9):mM P fV gZ cD tv Ea 13 a (kp f109.body) (kq f109.body) (lK [(7,.int .i64 c)] ((((js [(.slice s.p s.n s.c),seq] 0 .nil).put (some 2) (.pointer (some b))).put (some 4) (aP8)).put (some 6) seq)) w R=Ml b c a w R:=by kernel_rfl
def Xc:gY P 13 tv (kp f109.body)=true/\gY P 13 tv (kq f109.body)=true:=⟨by kernel_rfl,by kernel_rfl⟩
def Mm:dU:={quiet:=λd=>[11].contains d,loop:=λr=>(bif r==1 then[]else[])}
def Xd:Nat->Bool:=λd=>[23].contains d
def Xe(yield:bH)(b a:Addr)(K:bj0)(w:bI):ni P fV gZ cD Mm Xd f110 #[yield,(.pointer (some b)),(.pointer (some a))] K w=D9 K w yield b a:=by kernel_rfl
def Xf:nj P Mm f110 3=true:=by kernel_rfl
def Xg(yield:bH)(b a:Addr){K:bj0}{w:bI}(h:D9 K w yield b a):Calls P tm #[yield,(Pv (some b)),(Pv (some a))] w (cC K):=oA mixed func110 Xf (by rw[Xe];exact h)
def Xh(n)(h:LN K w n):=bM (z8 [4,5,8,9,10]) #[Iv n] K w func111 h
def Xi(t parent)(h:LO K w t parent):=bM (z8 [15,21,22,38,39]) #[Pv t,Iv parent] K w func112 h
def Xj(t g)(h:LP K w t g):=bM {} #[Pv t,Iv g] K w func113 h
def Xk(t g)(h:LQ K w t g):=bM (z8 [7,17,18]) #[Pv t,Iv g] K w func114 h
def Xl(t owner)(h:LR K w t owner):=bM {} #[Pv t,Iv owner] K w func115 h
def Xm(t id owner)(h:LS K w t id owner):=bM {} #[Pv t,Iv id,Iv owner] K w func116 h
def Xn(l a b)(h:LU K w l a b):=bM (z8 [8,11] [] [] [(3,[])]) #[Pv l,Iv a,Iv b] K w func117 h
def Xo(c chain n)(h:LV K w c chain n):=bM (z8 [19,21,23,34,39] [(8,[jQ 14],[13])] [(6,[(22,jZ)])]) #[Pv c,Sv chain,Iv n] K w func118 h
def Xp(c g n)(h:LW K w c g n):=bM (z8 [] [] [] [(3,[])]) #[Pv c,Iv g,Iv n] K w func119 h
def Xq(t g)(h:LX K w t g):=bM {} #[Pv t,Iv g] K w func121 h
def Xr(l group)(h:LY K w l group):=bM {} #[Pv l,Iv group] K w func122 h
def Xs(c target own)(h:LZ K w c target own):=bM {(z8 [18,20,50,55,58,60,70] [(7,[[0,1,3,4,2,6,5,7,8,9]],[2,5,7,9])] [(3,[(7,.slice),(19,jZ)]),(13,[(59,jZ)])] [(8,[])]:dU)with dyn:=λd=>[43].contains d} #[Pv c,Iv target,own] K w func123 h
def Xt(a b c)(h:W6 K w a b c):=bM {} #[.agg #[Iv a,Iv b,.bool c]] K w func124 h
def Xu(a b c)(h:W7 K w a b c):=bM {} #[.agg #[Iv a,Iv b,.bool c]] K w func125 h
def Xv(l group)(h:L1 K w l group):=bM {(z8 [20,22] [] [(3,[(5,jZ)])]:dU)with BL:=λd=>(bif d==15 then[.one .raw,.agg [.int .i64,.int .i64]]else[.one .raw,.one .raw])} #[Pv l,Iv group] K w func126 h
def Xw(n weights)(h:L2 K w n weights):=bM (z8 [15,20,24,29,31,40,46,53,57,58] [(3,[[0,1,3,2,4,5,6],[0,1,3,4,2,5,6]],[2,4])] [(4,[(0,jZ)]),(6,[(0,jZ),(30,jZ)])] [(5,[])]) #[Iv n,Sv weights] K w func127 h
def Xx(c target)(h:L3 K w c target):=bM {} #[Pv c,Iv target] K w func129 h
def Xy(s)(h:L4 K w s):=bM (z8 [7]) #[Pv s] K w func132 h
def Xz(s file)(h:L5 K w s file):=bM (z8 [6,13,14] [] [] [(3,[])]) #[Pv s,Iv file] K w func133 h
def XA(c a b g)(h:L6 K w c a b g):=bM (z8 [25,42,63] [(1,[jQ 11],[5]),(4,[jQ 7],[5]),(7,[jQ 11],[6])] [] [(4,[]),(8,[(11,jZ)])]) #[Pv c,.agg #[Iv a,Iv b],Iv g] K w func140 h
def XB(c id)(h:L7 K w c id):=bM {(z8 [20,24]:dU)with head:=λr=>(bif r==2 then 11 else 0)} #[Pv c,Iv id] K w func143 h
def XC(s i a)(h:L8 K w s i a):=bM (z8 [13,16,20]) #[Pv s,Iv i,Iv a] K w func144 h
def XD(l id)(h:L9 K w l id):=bM (z8 [] [(4,[jQ 9],[8])]) #[Pv l,Iv id] K w func145 h
def XE(c id g)(h:Ma K w c id g):=bM (z8 [21,34] [] [] [(4,[])]) #[Pv c,Iv id,Iv g] K w func149 h
def XF(c g)(h:Mb K w c g):=bM (z8 [17]) #[Pv c,Iv g] K w func150 h
def XG(s i a b)(h:Mc K w s i a b):=bM (z8 [14,17,21]) #[Pv s,Iv i,Iv a,.int .u8 b] K w func151 h
def XH(t id fl)(h:Md K w t id fl):=bM {} #[Pv t,Iv id,.bool fl] K w func152 h
def XI(s)(h:Me K w s):=bM (z8 [4]) #[Sv s] K w func153 h
def XJ(t id n)(h:Mf K w t id n):=bM (z8 [17,20,23,31,32,39]) #[Pv t,Iv id,Iv n] K w func155 h
def XK(c id a b d e f g i j k)(h:Mg K w c id a b d e f g i j k):=bM (z8 [9] [(2,[jQ 10],[8,9])] [] [(2,[(13,.bool)])]) #[Pv c,Iv id,.agg #[Iv a,Iv b,Iv d,Iv e,Iv f,Iv g,Iv i,.bool j,.bool k]] K w func156 h
def XL(b c d a chain)(h:Mh K w b c d a chain):=bM {} #[.agg #[Pv b,Pv c,Pv d],Iv a,Sv chain] K w func157 h
def XM(l id)(h:Mi K w l id):=bM {} #[Pv l,Iv id] K w func158 h
def XN(t id place a)(h:Mj K w t id place a):=bM (z8 [19,22,25,29,33,36,44,48,72] [(9,[jQ 14],[13])]) #[Pv t,Iv id,Iv place,Iv a] K w func159 h
def XO(t id)(h:Mk K w t id):=bM (z8 [14,20,26] [(6,[jQ 9],[8])]) #[Pv t,Iv id] K w func160 h
end Go.Mp
namespace Go.Mp
open Go Go.Vc Go.Proofs
variable{K:bj0}{w:bI}
variable(K w)
def Mn(a:Sl)(x:Int):=
 qp DF #[Sv a] w λj s e=>qg (λk=>dO s (K (.tuple #[aP8,Iv 1]) e) (ej j 64 (0<=(u64.wrap j)/\cond ((x.fdiv (2^(min (u64.wrap j).toNat 64))) !=0) (K (.tuple #[aP8,Iv 1]) e) (k e)) (k e))) λr=>zV x ⟨none,0,0⟩ 0 r λq h f c b=>e7 c a.n (qW a c 1 λl=>qD b l λd=>zU DG #[Iv d] b λp n=>qC #[Iv (i64.wrap (dy .u64 h p))] n λm o=>∃i:Sl,∃g:bI,Sem.run P (Builtin.append_ #[22,22] 22 #[Sv f,.slice (some m) 1 1]) o=.ok (Sv i) g/\0<=(u64.wrap d)/\(q (h.fdiv (2^(min (u64.wrap d).toNat 64))) i (i64.wrap (c+1)) g)) (K (.tuple #[Sv f,Iv 0]) b)
def Eb(t:cm)(g:Int):=
 qC #[Iv 0] w λa w2=>St a (Iv (-1)) (λe=>qN CL #[Pv t,Iv g] e λd f=>iJ P 13 d #[9] (kp f169.body) (kq f169.body) .ret (((((((js [Pv t,Iv g] 0 .nil).put (some 4) (Iv 0)).put (some 5) (Pv (some a))).put (some 6) (Pv t)).put (some 7) (Iv g)).put (some 8) d)) f (λb7 b=>qD b a λh=>b.heap[b7]?=some (.deferred (some []))/\K (Iv h) (b.putObj b7 (.deferred none))) (λb8 c=>c.heap[b8]?=some (.deferred (some []))/\K (Iv 0) (c.putObj b8 (.deferred none)))) w2
def Mo(t:cm)(g:Int):=
 Al (.cells #[Pv t] 62) (λa w2=>qC #[Iv g] w2 λd b=>qb b a λi=>qD b d λj=>qF ku #[Pv i,Iv j] b λk c=>dO k (K (aP8) c) (qb c a λf=>qJ Dn #[Pv f,(.func (.func DH) #[] #[Pv (some a),Pv (some d)])] c λh e=>K (Sv h) e)) w
def Mq(s:Sl)(del:bH):=
 qQ DI #[Sv s,del] w λg l=>cond (g==(-1)) (K (Sv s) l) (qI g (i64.wrap (g+1)) l λh i8 a f=>e7 a s.n (qW s a 1 λi=>qD f i λd=>fe P del #[Iv d] f λk b=>∃e,k=.returned (.bool e)/\dO e (qW s i8 1 λj=>St j (Iv d) (λm=>(h (i64.wrap (i8+1)) (i64.wrap (a+1)) m)) b) ((h i8 (i64.wrap (a+1)) b))) (((0:Int)<=i8/\i8<=((s.n:Nat):Int))/\∃c:bI,Sem.run P (Builtin.clear_ #[22] 0 #[.slice (gA s.p i8.toNat s.c 1) (s.n-i8.toNat) (s.c-i8.toNat)]) f=.ok (.tuple #[]) c/\((0:Int)<=i8/\i8<=((s.c:Nat):Int))/\K (.slice (gA s.p 0 s.c 1) (i8.toNat-0) (s.c-0)) c))
def Mr(id:Int)(c b:Addr):=
 Dr (λa=>qb a c λf=>NN f λa3=>qM a a3 0 λg=>∃d:cm,gE P 117 (.map g) (Iv id) false a (Pv d)/\NN d λe=>qL a e 4 λh=>qD a b λi=>K (.bool (h !=i)) a) w
def Ec(t:cm)(id:Int)(hV:bH):=
 NN t λb=>qM w b 0 λe=>∃a:cm,gE P 117 (.map e) (Iv id) false w (Pv a)/\cond a.isNone (K (Iv 2) w) (fe P hV #[Pv a] w λc d=>c=.returned (.tuple #[])/\K (Iv 0) d)
def Ms(p:cm)(a:Addr):=
 qD w a λd=>NN p λb=>St (b.add 4) (Iv d) (λc=>K aP4 c) w
def Mt(l:cm)(group:Int)(change:bH):=
 NN l λQ=>qM w Q 0 λR=>∃e:cm,∃B:bI,Sem.run P (Instr.range 140 (.map R)) w=.ok (Pv e) B/\qO 0 B λt n9 C=>(∃k:bI,Sem.run P (Instr.next (Pv e) false 0) C=.ok (.tuple #[.bool false]) k/\K (Iv n9) k)\/(∃v:bH,∃x:bH,∃m:bI,Sem.run P (Instr.next (Pv e) false 0) C=.ok (.tuple #[.bool true,v,x]) m/\∃g:Int,∃i:Int,∃j:Int,∃n:bI,Sem.run P (Instr.entry (Pv e)) m=.ok (.tuple #[Iv g,.agg #[Iv i,Iv j]]) n/\qw n λb y=>qU [Iv i,Iv j] b y λo=>zZ o b λD E=>fe P change #[.agg #[Iv D,Iv E]] o λu z=>∃r:Int,∃s:Int,u=.returned (.agg #[Iv r,Iv s])/\qw z λc A=>qU [Iv r,Iv s] c A λa=>qh (λf=>qL a b 0 λG=>cond (G==group) (zZ a b λH I=>zZ a c λJ L=>∃h:Bool,kE P .neq 239 (.agg #[Iv H,Iv I]) (.agg #[Iv J,Iv L]) h/\f h a) (f false a)) λF p=>cond F (Dr (λd=>NN l λa41=>qM d a41 0 λM=>zZ d c λN O=>∃q:bI,Sem.run P (Instr.mapUpdate 140 (.map M) (Iv g) (.agg #[Iv N,Iv O])) d=.ok () q/\(t (i64.wrap (n9+1)) q)) p) ((t n9 p)))
def Mu(e f:Int)(b:Addr):=
 Al (.cells #[Iv e,Iv f] 239) (λg w2=>qw w2 λc a=>qD a b λj=>qL a g 1 λk=>qU [Iv j,Iv k] c a λd=>zZ d c λh i=>K (.agg #[Iv h,Iv i]) d) w
def Mv(chain:Sl)(n:Int):=
 zK w λg w2=>qO 0 w2 λm c b=>e7 c chain.n (qW chain c 1 λo=>qD b o λd=>qF yL #[Iv d] b λj a=>dO j (K aP2 a) (cF (some g) 64 d 1 λe=>qm a e λk=>cond k (K aP2 a) (cF (some g) 64 d 1 λf=>St f (.bool true) (λh=>(m (i64.wrap (c+1)) h)) a))) (qF Dm #[Iv n] b λl i=>K (.bool l) i)
def Mw(c:cm)(chain:Sl)(is:bH):=
 qO 0 w λl e a=>e7 e chain.n (qW chain e 1 λm=>qD a m λk=>NN c λn=>cF (some (n.add 0)) 64 k 4 λa9=>qA a a9 λg h i j=>fe P is #[.agg #[Iv g,Iv h,Iv i,Iv j]] a λf b=>∃d,f=.returned (.bool d)/\cond d (K (Iv k) b) ((l (i64.wrap (e+1)) b))) (K (Iv (-1)) a)
def Mx(b c d e:Int)(a:Addr):=
 Al (.cells #[Iv b,Iv c,Iv d,Iv e] 107) (λf w2=>qL w2 f 0 λg=>qD w2 a λh=>K (.bool (decide (g<h))) w2) w
def My(n:Int):=
 cond (decide ((0:Int)<=n)) (K (.bool (decide (n<=1099511627776))) w) (K aP2 w)
def Mz(t:cm)(is:bH):=
 NN t λs=>qK w s 0 λu=>qf ⟨none,0,0⟩ 0 w λh g a b=>e7 a u.n (qh (λi=>NN t λj=>qK b j 0 λq=>qW q a 2 λk=>qy b k 1 λr=>cond r (fe P is #[Iv a] b λl n=>∃e,l=.returned (.bool e)/\i e n) (i false b)) λp c=>cond p (qC #[Iv a] c λm o=>∃f:Sl,∃d:bI,Sem.run P (Builtin.append_ #[22,22] 22 #[Sv g,.slice (some m) 1 1]) o=.ok (Sv f) d/\(h f (i64.wrap (a+1)) d)) ((h g (i64.wrap (a+1)) c))) (K (Sv g) b)
def MA(x:Int)(c a:Addr):=
 Dr (λb=>qb b c λh=>qD b a λf=>qJ rW #[Pv h,Iv x] b λi d=>zG d a (Iv f) λj=>qF qe #[Sv i,Iv f] d λe g=>K (.bool e) g) w
def zp(s:Sl)(v:Int):=
 qQ vL #[Sv s,Iv v] w λb a=>K (.bool (decide (b≥0))) a
def MB(d e:Int):=
 Al (.cells #[Iv d,Iv e] 239) (λf w2=>qw w2 λa b=>zZ b f λi j=>qU [Iv i,Iv (min1 (i64.wrap (j+1)) 3)] a b λc=>zZ c a λg h=>K (.agg #[Iv g,Iv h]) c) w
def MC(l:Sl)(target:Int):=
 qg (λar=>qF DJ #[Sv l] w λau o=>dO au (K (aP8) o) (ej target 0 (K (aP8) o) (cond (decide (target≥((l.n:Nat):Int))) (K (aP8) o) (ar o)))) λw2=>∃p:Sl,∃N:bI,Sem.run P (Instr.makeSlice 22 (Iv ((l.n:Nat):Int)) (Iv ((l.n:Nat):Int))) w2=.ok (Sv p) N/\((0:Int)<=1/\1<=((l.n:Nat):Int))/\qO 0 N λaq m i=>cond (decide (m<(((l.n-(1:Int).toNat):Nat):Int))) (cF (gA l.p ((1:Int).toNat) l.c 3) (l.n-(1:Int).toNat) m 3 λA=>ql i A λR S T=>qi i λf H=>qU [Iv R,Iv S,Iv T] f H λI=>Dr (λg=>qL g f 0 λn=>qW p n 1 λa23=>qD g a23 λx=>ql g f λU V W=>qQ DK #[.agg #[Iv U,Iv V,Iv W]] g λX j=>zG j a23 (Iv x) λav=>zH j f 0 (Iv n) λaw=>qW p n 1 λa33=>St a33 (Iv (i64.wrap (x+X))) (λJ=>(aq (i64.wrap (m+1)) J)) j) I) (∃c:Sl,∃r:bI,Sem.run P (Instr.makeSlice 22 (Iv ((l.n:Nat):Int)) (Iv ((l.n:Nat):Int))) i=.ok (Sv c) r/\qO 0 r λe a k=>e7 a l.n (qW l a 3 λB=>ql k B λY Z aa=>qi k λd L=>qU [Iv Y,Iv Z,Iv aa] d L λs=>qg (λz=>cond (a==target) ((e (i64.wrap (a+1)) s)) (qF y0 #[Sv l,Iv a,Iv target] s λab u=>dO ab ((e (i64.wrap (a+1)) u)) (z u))) λt=>ql t d λad ae af=>qQ DK #[.agg #[Iv ad,Iv ae,Iv af]] t λag M=>qW c a 1 λC=>St C (Iv ag) (λb=>qL b d 0 λah=>qW p ah 1 λa64=>qD b a64 λy=>qh (λq=>qL b d 0 λaj=>cond (aj !=target) (qL b d 0 λak=>qW c ak 1 λD=>qD b D λal=>q (decide (y>al)) b) (q false b)) λai v=>cond ai (Dr (λh=>qW c a 1 λE=>qD h E λam=>qL h d 0 λan=>qW c an 1 λF=>qD h F λao=>qQ Km #[Iv am,Iv ao,Iv y] h λap O=>qW c a 1 λG=>St G (Iv ap) (λQ=>(e (i64.wrap (a+1)) Q)) O) v) ((e (i64.wrap (a+1)) v))) M) (K (Sv c) k))
def Ed(l ef:Sl)(target g:Int):=
 Al (.cells #[Sv l] 245) (λi w2=>Al (.cells #[Sv ef] 22) (λy H=>Al (.cells #[.bool false] 4) (λa x=>qc x i λF=>qc x y λG=>qF Kn #[Sv F,Sv G,Iv target] x λc e=>dO c (St a (.bool false) (λp=>qm p a λz=>K (.bool z) p) e) (ej g 0 (St a (.bool false) (λq=>qm q a λA=>K (.bool A) q) e) (qc e i λb=>cond (decide (g≥((b.n:Nat):Int))) (St a (.bool false) (λr=>qm r a λB=>K (.bool B) r) e) (qc e i λt=>qF y0 #[Sv t,Iv g,Iv target] e λd j=>dO d (St a (.bool false) (λs=>qm s a λC=>K (.bool C) s) j) (qc j i λu=>qN DL #[Sv u,Iv g,Iv target] j λv D=>iJ P 47 v #[36] (kp f186.body) (kq f186.body) .ret ((((((((((((((((((((((((((((((((((js [Sv l,Sv ef,Iv target,Iv g] 0 .nil).put (some 4) (Pv (some i))).put (some 5) (Pv (some y))).put (some 8) (Pv (some a))).put (some 10) (Sv F)).put (some 11) (Sv G)).put (some 12) (Iv target)).put (some 13) (.bool c)).put (some 14) (.bool (!c))).put (some 15) (.bool (!c))).put (some 15) (.bool false)).put (some 16) (Iv g)).put (some 17) (.bool (decide (g<0)))).put (some 18) (.bool (decide (g<0)))).put (some 19) (.bool (decide (g<0)))).put (some 19) (.bool false)).put (some 20) (Iv g)).put (some 21) (Sv b)).put (some 22) (Iv ((b.n:Nat):Int))).put (some 23) (.bool (decide (g≥((b.n:Nat):Int))))).put (some 24) (.bool (decide (g≥((b.n:Nat):Int))))).put (some 25) (.bool (decide (g≥((b.n:Nat):Int))))).put (some 25) (.bool false)).put (some 26) (Sv t)).put (some 27) (Iv g)).put (some 28) (Iv target)).put (some 29) (.bool d)).put (some 30) (.bool (!d))).put (some 31) (.bool (!d))).put (some 32) (Sv u)).put (some 33) (Iv g)).put (some 34) (Iv target)).put (some 35) v)) D (λf E=>St a (.bool false) (λm=>m.heap[f]?=some (.deferred (some []))/\∃n:Bool,(m.putObj f (.deferred none)).cell? a=some (.bool n)/\K (.bool n) (m.putObj f (.deferred none))) E) (λh k=>k.heap[h]?=some (.deferred (some []))/\∃o:Bool,(k.putObj h (.deferred none)).cell? a=some (.bool o)/\K (.bool o) (k.putObj h (.deferred none)))))))) H) w2) w
def MD(n:Int)(weights:Sl):=
 cond (decide ((0:Int)<=n)) (cond (decide (n<=1048576)) (cond (decide (((weights.n:Nat):Int)<=64)) (qF Wt #[Sv weights,(.func (.func DM) #[] #[])] w λb a=>K (.bool (!b)) a) (K aP2 w)) (K aP2 w)) (K aP2 w)
def ME(l:Sl):=
 qI 0 0 w λc n5 b a=>e7 b l.n (qW l b 1 λd=>qD a d λe=>(c (i64.wrap (n5+e)) (i64.wrap (b+1)) a)) (K (Iv n5) a)
def MF(n:Int)(weights:Sl):=
 qF Ds #[Iv n,Sv weights] w λQ t=>dO Q (K (aP8) t) (∃d:Sl,∃z:bI,Sem.run P (Instr.makeSlice 22 (Iv ((weights.n:Nat):Int)) (Iv ((weights.n:Nat):Int))) t=.ok (Sv d) z/\qQ vJ #[Sv weights] z λN C=>cond (N==0) (K (Sv d) C) (zT ⟨none,0,0⟩ n 0 C λO a b c e=>e7 c weights.n (qW weights c 1 λp=>qD e p λD=>zN y1 #[.int .u64 (u64.wrap n),.int .u64 (u64.wrap D)] e λE F u=>zN vM #[.int .u64 E,.int .u64 F,.int .u64 (u64.wrap N)] u λG H v=>qW d c 1 λa26=>St a26 (Iv (i64.wrap G)) (λj=>qW d c 1 λa28=>qD j a28 λI=>Al (.cells #[Iv c,.int .u64 H] 302) (λs x=>∃l:Sl,∃k:bI,Sem.run P (Builtin.append_ #[297,297] 297 #[Sv a,.slice (some s) 1 1]) x=.ok (Sv l) k/\(O l (i64.wrap (b-I)) (i64.wrap (c+1)) k)) j) v) (qE Ko #[Sv a,(.func (.func DN) #[] #[])] e λy=>((0:Int)<=b/\b<=((a.c:Nat):Int))/\qO 0 y λo h f=>cond (decide (h<(((b.toNat-0):Nat):Int))) (cF (gA a.p 0 a.c 2) (b.toNat-0) h 2 λa41=>zM f a41 λJ L=>Al (.cells #[Iv 0,.int .u64 0] 302) (λi A=>qU [Iv J,.int .u64 L] i A λg=>qL g i 0 λm=>qW d m 1 λq=>qD g q λM=>qW d m 1 λr=>St r (Iv (i64.wrap (M+1))) (λB=>(o (i64.wrap (h+1)) B)) g) f) (K (Sv d) f))))
def MG(l:cm)(a:Sl):=
 Al (.cells #[Pv l] 78) (λc w2=>Al (.cells #[Sv a] 22) (λk d=>qb d c λn=>NN n λj=>qM d j 0 λo=>qN DO #[.map o] d λh m=>qJ yI #[h] m λi e=>qJ Dg #[Sv i,(.func (.func Kq) #[] #[Pv (some k),Pv (some c)])] e λb f=>qE Kr #[Sv b,(.func (.func Ks) #[] #[Pv (some c)])] f λg=>K (Sv b) g) w2) w
def MH(held:bH)(k a:Addr):=
 qc w k λo=>qO 0 w λi d c=>e7 d o.n (qW o d 1 λE=>qD c E λD=>qb c a λF=>NN F λj=>qZ c j 10 λp=>qX p9 #[Pv p,Iv D] c λq r s t u v x y z G m=>qV m λe n=>qU [Iv q,Iv r,Iv s,Iv t,Iv u,Iv v,Iv x,.bool y,.bool z] e n λf=>qL f e 4 λA=>fe P held #[Iv A] f λl b=>∃h,l=.returned (.bool h)/\dO h (qb b a λB=>qF J9 #[Pv B,Iv D] b λC g=>cond C (K aP3 g) ((i (i64.wrap (d+1)) g))) ((i (i64.wrap (d+1)) b))) (K aP2 c)
def MI(c:cm)(id:Int):=
 NN c λal=>qZ w al 10 λan=>qX p9 #[Pv an,Iv id] w λao ap aq ar au z A B C av am=>qV am λa t=>qU [Iv ao,Iv ap,Iv aq,Iv ar,Iv au,Iv z,Iv A,.bool B,.bool C] a t λu=>Dr (λe=>NN c λp=>qZ e p 0 λD=>qL e a 4 λE=>qJ rW #[Pv D,Iv E] e λn b=>qg (λg=>qL b (a.add 0) 0 λF=>cond (decide (F≥0)) (qY b a λG H I J L M N O Q=>qE C8 #[Pv c,Iv id,.agg #[Iv G,Iv H,Iv I,Iv J,Iv L,Iv M,Iv N,.bool O,.bool Q]] b λi=>NN c λa40=>qZ i a40 10 λR=>qQ vH #[Pv R,Iv id,Iv 0,Iv 0] i λaw x=>g x) (qY b a λS T U V W X Y Z aa=>qF Kx #[Pv c,Iv id,.agg #[Iv S,Iv T,Iv U,Iv V,Iv W,Iv X,Iv Y,.bool Z,.bool aa],Sv n] b λab j=>dO ab (K aP2 j) (g j))) λv=>Dr (λf=>NN c λq=>qP f (q.add 1) λad ae af=>qL f a 3 λag=>qE rY #[.agg #[Pv ad,Pv ae,Pv af],Iv ag,Sv n] f λk=>NN c λr=>qZ k r 8 λah=>qQ C9 #[Pv ah,Iv id] k λax y=>Dr (λd=>NN c λh=>qM d h 11 λo=>NN c λs=>qZ d s 9 λai=>qL d a 4 λaj=>zU Ky #[Pv ai,Iv aj] d λak l=>zS l h 11 (.map o) λay=>∃m:bI,Sem.run P (Instr.mapUpdate 81 (.map o) (Iv id) (.int .u64 ak)) l=.ok () m/\K aP3 m) y) v) u
def XP(g:Int)(b a:Addr):=
 qc w b λd=>qW d g 1 λc=>qm w c λe=>cond e (K aP3 w) (qc w a λf=>qW f g 1 λa5=>qm w a5 λh=>K (.bool h) w)
def XQ(g:Int)(a:Addr):=
 qc w a λc=>qW c g 1 λb=>qm w b λd=>K (.bool d) w
def MJ(s:Sl)(f:bH):=
 qO 0 w λj a d=>e7 a s.n (qW s a 6 λk=>zR d k λl m n g h i=>fe P f #[.agg #[Iv l,Iv m,Iv n,Iv g,Iv h,.bool i]] d λe b=>∃c,e=.returned (.bool c)/\cond c (K (Iv a) b) ((j (i64.wrap (a+1)) b))) (K (Iv (-1)) d)
def MK(c:cm)(id g:Int):=
 NN c λax=>qZ w ax 10 λaz=>qX p9 #[Pv az,Iv id] w λaA aB aC aD aE L M N O Q ay=>qV ay λb D=>qU [Iv aA,Iv aB,Iv aC,Iv aD,Iv aE,Iv L,Iv M,.bool N,.bool O] b D λh=>qL h b 4 λR=>q9 (λq=>qh (λf=>cond (Q !=0) (f true h) (NN c λa27=>qZ h a27 0 λT=>qF ku #[Pv T,Iv g] h λU e=>dO U (f true e) (qL e b 2 λV=>cond (V==0) (qL e (b.add 0) 0 λW=>f (decide (W<0)) e) (f false e)))) λS d=>cond S (K (.tuple #[Iv (-1),Iv 2]) d) (qL d b 2 λX=>cond (X==1) (NN c λa35=>qZ d a35 8 λY=>qQ yS #[Pv Y,Iv id] d λaF F=>K (.tuple #[Iv (-1),Iv 0]) F) (qL d b 2 λZ=>cond (Z==0) (q g d) (q R d)))) λa E=>zX DP #[Pv c,Iv a] E λaa ab u l=>cond (u !=0) (K (.tuple #[Iv ab,Iv u]) l) (qY l b λad ae af ag ah ai aj ak al=>zJ vK #[Pv c,.agg #[Iv ad,Iv ae,Iv af,Iv ag,Iv ah,Iv ai,Iv aj,.bool ak,.bool al]] l λam m=>qg (λr=>qL m b 2 λan=>cond (an==2) (Dr (λi=>NN c λa63=>qP i (a63.add 4) λv x y=>qL i b 3 λz=>NN c λC=>qZ i C 0 λao=>qJ rW #[Pv ao,Iv a] i λap n=>zH n b 3 (Iv z) λaG=>qP n (a63.add 4) λaq ar au=>((.agg #[Pv aq,Pv ar,Pv au]):bH)=(.agg #[Pv v,Pv x,Pv y])/\qE rY #[.agg #[Pv v,Pv x,Pv y],Iv z,Sv ap] n λH=>r H) m) (r m)) λG=>Dr (λj=>NN c λs=>qZ j s 9 λA=>NN c λt=>qM j t 11 λo=>∃p:Int,gE P 81 (.map o) (Iv id) false j (.int .u64 p)/\qQ ti #[Pv c,Iv a] j λav k=>∃B:Int,gE P 81 (.map o) (Iv id) false k (.int .u64 B)/\((.int .u64 B):bH)=(.int .u64 p)/\zS k t 11 (.map o) λaH=>qG k s 9 (Pv A) λaI=>qF KA #[Pv A,.int .u64 p,Iv a,Iv av] k λaw I=>qE DQ #[Pv c,Iv id,Iv aa,Iv a,.string am,.bool (!aw)] I λJ=>K (.tuple #[Iv (-1),Iv 0]) J) G)
def ML(s:cm)(e f:Int):=
 Al (.cells #[Iv e,Iv f] 54) (λd w2=>zZ w2 d λo p=>qF y2 #[Pv s,.agg #[Iv o,Iv p]] w2 λq h=>dO q (K (.tuple #[.string (ByteArray.mk #[]),Iv 2]) h) (Dr (λa=>NN s λa9=>qM a a9 1 λi=>zZ a d λj k=>∃b:ByteArray,∃c:Bool,gE P 137 (.map i) (.agg #[Iv j,Iv k]) true a (.tuple #[.string b,.bool c])/\cond c (K (.tuple #[.string b,Iv 0]) a) (zZ a d λl m=>zJ DR #[.agg #[Iv l,Iv m]] a λn g=>K (.tuple #[.string n,Iv 0]) g)) h)) w
def MM(t:cm)(b c:Int):=
 Al (.cells #[Iv b,Iv c] 54) (λf w2=>Dr (λa=>NN t λa4=>qM a a4 1 λg=>zZ a f λh i=>∃d:Int,∃e:Bool,gE P 119 (.map g) (.agg #[Iv h,Iv i]) true a (.tuple #[Iv d,.bool e])/\cond e (K (Iv d) a) (K (Iv (-1)) a)) w2) w
def MN(t:cm)(g h owner:Int):=
 Al (.cells #[Iv g,Iv h] 54) (λa w2=>NN t λa3=>qL w2 a3 3 λb=>qL w2 a 0 λL=>ej L 0 (qU [Iv (-1),Iv b] a w2 λx=>NN t λJ=>qL x J 3 λM=>NN t λa9=>St (a9.add 3) (Iv (i64.wrap (M+1))) (λu=>Dr (λc=>NN t λi=>qM c i 0 λo=>zZ c a λy z=>Al (.cells #[Iv y,Iv z,Iv 0,Iv 0,Iv owner,Iv 0,Iv 0,.bool false,.bool false] 57) (λr j=>zS j i 0 (.map o) λN=>∃k:bI,Sem.run P (Instr.mapUpdate 117 (.map o) (Iv b) (Pv (some r))) j=.ok () k/\K (.tuple #[Iv b,Iv 0]) k) c) u) x) (zZ w2 a λA B=>qQ Dz #[Pv t,.agg #[Iv A,Iv B]] w2 λC l=>cond (decide (C≥0)) (K (.tuple #[Iv (-1),Iv 4]) l) (Dr (λd=>NN t λa26=>qM d a26 1 λD=>zZ d a λE F=>∃e:bI,Sem.run P (Instr.mapUpdate 119 (.map D) (.agg #[Iv E,Iv F]) (Iv b)) d=.ok () e/\NN t λq=>qL e q 3 λG=>NN t λa33=>St (a33.add 3) (Iv (i64.wrap (G+1))) (λv=>Dr (λf=>NN t λa36=>qM f a36 0 λp=>zZ f a λH I=>Al (.cells #[Iv H,Iv I,Iv 0,Iv 0,Iv owner,Iv 0,Iv 0,.bool false,.bool false] 57) (λs m=>zS m a36 0 (.map p) λO=>∃n:bI,Sem.run P (Instr.mapUpdate 117 (.map p) (Iv b) (Pv (some s))) m=.ok () n/\K (.tuple #[Iv b,Iv 0]) n) f) v) e) l))) w
def MO(s:cm)(i:Int):=
 ej i 0 (K (Pv none) w) (NN s λa=>qK w a 0 λb=>cond (decide (i≥((b.n:Nat):Int))) (K (Pv none) w) (NN s λa3=>qK w a3 0 λc=>qW c i 16 λa5=>K (Pv (some a5)) w))
def MP(c:cm)(g:Int)(text:ByteArray):=
 zX DP #[Pv c,Iv g] w λi j e b=>cond (e !=0) (K (.tuple #[Iv (-1),Iv j,Iv e]) b) (NN c λf=>qZ b f 10 λk=>qj DA #[Pv k,.agg #[Iv (-1),Iv 0],Iv g] b λa l h=>qE DQ #[Pv c,Iv a,Iv i,Iv g,.string text,.bool false] h λd=>K (.tuple #[Iv a,Iv (-1),Iv 0]) d)
def MQ(c:cm)(h i j k l m n:Int)(o p:Bool):=
 Al (.cells #[Iv h,Iv i,Iv j,Iv k,Iv l,Iv m,Iv n,.bool o,.bool p] 57) (λd w2=>qL w2 d 2 λB=>cond (B==1) (Dr (λe=>NN c λa5=>qZ e (a5.add 1) 1 λD=>qL e d 3 λE=>zQ DS #[Pv D,Iv E] e λs F C=>K (.string s) C) w2) (cond (B==2) (Dr (λa=>NN c λf=>qZ a (f.add 4) 1 λt=>qL a d 3 λu=>zQ DS #[Pv t,Iv u] a λv G q=>K (.string v) q) w2) (Dr (λb=>NN c λg=>qZ b g 7 λx=>zZ b (d.add 0) λy z=>zQ yZ #[Pv x,.agg #[Iv y,Iv z]] b λA H r=>K (.string A) r) w2))) w
def MR(p:cm)(a:Addr):=
 qm w a λd=>NN p λb=>St (b.add 8) (.bool d) (λc=>K aP4 c) w
def MS(s:cm)(f g:Int)(text:ByteArray):=
 Al (.cells #[Iv f,Iv g] 54) (λh w2=>zZ w2 h λn o=>qF y2 #[Pv s,.agg #[Iv n,Iv o]] w2 λp b=>dO p (K (Iv 2) b) (cond (((text.size:Nat):Int) !=16) (K (Iv 1) b) (Dr (λc=>NN s λa9=>qM c a9 1 λj=>zZ c h λk l=>∃a:bI,Sem.run P (Instr.mapUpdate 137 (.map j) (.agg #[Iv k,Iv l]) (.string text)) c=.ok () a/\NN s λd=>qL a d 2 λm=>NN s λe=>St (e.add 2) (Iv (i64.wrap (m+1))) (λi=>K (Iv 0) i) a) b))) w
def MT(s:cm)(i:Int):=
 qR tt #[Pv s,Iv i] w λb a=>cond b.isNone (K (Iv 1) a) (NN b λa4=>u1 16 .u8 (.agg #[.int .u8 0,.int .u8 0,.int .u8 0,.int .u8 0,.int .u8 0,.int .u8 0,.int .u8 0,.int .u8 0,.int .u8 0,.int .u8 0,.int .u8 0,.int .u8 0,.int .u8 0,.int .u8 0,.int .u8 0,.int .u8 0]) a4 a (λc=>K (Iv 0) c))
def MU(p:cm)(i:Int):=
 qh (λb=>ej i 0 (b true w) (NN p λa5=>qZ w a5 0 λh=>qQ Jo #[Pv h] w λj f=>b (decide (i≥j)) f)) λg w2=>cond g (K (Iv 1) w2) (NN p λc=>qZ w2 c 0 λd=>qF DT #[Pv d,Iv i,.bool false] w2 λe a=>dO e (K (Iv 2) a) (K (Iv 0) a))
variable{K w}
def XR(a x)(h:Mn K w a x):=bM (z8 [20,24,25,26,30,32,39,40,45,46,47] [] [(6,[(1,.int .u64),(8,.slice),(31,jZ)])] [(4,[])]) #[Sv a,.int .u64 x] K w func166 h
def tw:dU:={quiet:=λd=>[11].contains d}
def Ee:Nat->Bool:=λd=>[].contains d
def XS(t:cm)(g:Int)(K:bj0)(w:bI):ni P fV gZ cD tw Ee f169 #[(.pointer t),(.int .i64 g)] K w=Eb K w t g:=by kernel_rfl
def XT:nj P tw f169 2=true:=by kernel_rfl
def XU(t:cm)(g:Int){K:bj0}{w:bI}(h:Eb K w t g):Calls P Df #[(Pv t),(Iv g)] w (cC K):=oA mixed func169 XT (by rw[XS];exact h)
def MV(c:Addr)(b:Nat)(w:bI)(R:Ending->bi9):Prop:=
 lI b (λa=>qD a c λe=>St c (Iv (i64.wrap (e+1))) (λd=>fg b none R d) a) w
def XV(t:cm)(g:Int)(b:Addr)(d:bH)(c:Int)(a:Nat)(w:bI)(R:Ending->bi9):mM P fV gZ cD tw Ee 13 a (kp f169.body) (kq f169.body) (lK [(9,.int .i64 c)] ((((((js [(.pointer t),(.int .i64 g)] 0 .nil).put (some 4) (.int .i64 0)).put (some 5) (.pointer (some b))).put (some 6) (.pointer t)).put (some 7) (.int .i64 g)).put (some 8) d)) w R=MV b a w R:=by kernel_rfl
def XW:gY P 13 tw (kp f169.body)=true/\gY P 13 tw (kq f169.body)=true:=⟨by kernel_rfl,by kernel_rfl⟩
def XX(t g)(h:Mo K w t g):=bM {} #[Pv t,Iv g] K w func170 h
def XY(s del)(h:Mq K w s del):=bM {(z8 [12,15,18,19,21,35] [] [(5,[(5,jZ),(6,jZ)])]:dU)with dyn:=λd=>[28].contains d} #[Sv s,del] K w func171 h
def XZ(id b a)(h:Mr K w id b a):=bM {(z8 [15]:dU)with head:=λr=>(bif r==1 then 12 else 0)} #[Iv id,Pv (some b),Pv (some a)] K w func172 h
def MW(t id hV)(h:Ec K w t id hV):=bM {(z8 [15]:dU)with dyn:=λd=>[18].contains d} #[Pv t,Iv id,hV] K w func173 h
def X0(p a)(h:Ms K w p a):=bM {} #[Pv p,Pv (some a)] K w func174 h
def X1(l group change)(h:Mt K w l group change):=bM {(z8 [27,31,40] [(7,[jQ 7],[6])] [(3,[(7,jZ)])] [(7,[(32,.bool)])]:dU)with dyn:=λd=>[23].contains d,BL:=λd=>(bif d==18 then[.one (.int .i64),.agg [.int .i64,.int .i64]]else[.one .raw,.one .raw])} #[Pv l,Iv group,change] K w func175 h
def X2(b c a)(h:Mu K w b c a):=bM {} #[.agg #[Iv b,Iv c],Pv (some a)] K w func176 h
def X3(chain n)(h:Mv K w chain n):=bM (z8 [9,11,24] [] [(3,[(10,jZ)])]) #[Sv chain,Iv n] K w func177 h
def X4(c chain is)(h:Mw K w c chain is):=bM {(z8 [10,12,24] [] [(2,[(11,jZ)])]:dU)with dyn:=λd=>[22].contains d} #[Pv c,Sv chain,is] K w func178 h
def X5(b c d e a)(h:Mx K w b c d e a):=bM (z8 [7]) #[.agg #[Iv b,Iv c,Iv d,Iv e],Pv (some a)] K w func179 h
def X6(n)(h:My K w n):=bM (z8 [4,7]) #[Iv n] K w func180 h
def X7(t is)(h:Mz K w t is):=bM {(z8 [11,13,32] [] [(3,[(5,.slice),(12,jZ)])] [(6,[(27,.bool)])]:dU)with dyn:=λd=>[26].contains d} #[Pv t,is] K w func181 h
def X8(x b a)(h:MA K w x b a):=bM (z8 [] [(1,[[0,1,3,2,4,5]],[2,4])]) #[Iv x,Pv (some b),Pv (some a)] K w func182 h
def Ef(s v)(h:zp K w s v):=bM (z8 [8]) #[Sv s,Iv v] K w func183 h
def X9(a b)(h:MB K w a b):=bM (z8 [7,8]) #[.agg #[Iv a,Iv b]] K w func184 h
def Ya(l target)(h:MC K w l target):=bM (z8 [17,22,23,26,30,32,42,44,46,49,51,57,78,86,102] [(7,[jQ 10],[6,9]),(17,[jQ 15],[12,14])] [(5,[(31,jZ)]),(11,[(50,jZ)])] [(3,[]),(14,[]),(17,[(87,.bool)])]) #[Sv l,Iv target] K w func185 h
def tx:dU:={quiet:=λd=>[17,22,23,46].contains d,head:=λr=>(bif r==5 then 10 else 0)}
def Eg:Nat->Bool:=λd=>[].contains d
def Yb(l ef:Sl)(target g:Int)(K:bj0)(w:bI):ni P fV gZ cD tx Eg f186 #[(.slice l.p l.n l.c),(.slice ef.p ef.n ef.c),(.int .i64 target),(.int .i64 g)] K w=Ed K w l ef target g:=by kernel_rfl
def Yc:nj P tx f186 4=true:=by kernel_rfl
def Yd(l ef:Sl)(target g:Int){K:bj0}{w:bI}(h:Ed K w l ef target g):Calls P Dq #[(Sv l),(Sv ef),(Iv target),(Iv g)] w (cC K):=oA mixed func186 Yc (by rw[Yb];exact h)
def MX(k l m:Addr)(b:Int)(c:Nat)(w:bI)(R:Ending->bi9):Prop:=
 lI c (λe=>Dr (λa=>qc a k λg=>qW g b 3 λd=>qL a d 1 λh=>qc a l λi=>qW i b 1 λa41=>qD a a41 λj=>cond (decide (h<=j)) (St m (.bool true) (λf=>fg c (some .ret) R f) a) (fg c none R a)) e) w
def Ye(l ef:Sl)(target g:Int)(k m n:Addr)(h i:Sl)(b:Bool)(a c:Sl)(d:Bool)(e:Sl)(o:bH)(f:Int)(j:Nat)(w:bI)(R:Ending->bi9):mM P fV gZ cD tx Eg 47 j (kp f186.body) (kq f186.body) (lK [(36,.int .i64 f)] (((((((((((((((((((((((((((((((((js [(.slice l.p l.n l.c),(.slice ef.p ef.n ef.c),(.int .i64 target),(.int .i64 g)] 0 .nil).put (some 4) (.pointer (some k))).put (some 5) (.pointer (some m))).put (some 8) (.pointer (some n))).put (some 10) (.slice h.p h.n h.c)).put (some 11) (.slice i.p i.n i.c)).put (some 12) (.int .i64 target)).put (some 13) (.bool b)).put (some 14) (.bool (!b))).put (some 15) (.bool (!b))).put (some 15) (.bool false)).put (some 16) (.int .i64 g)).put (some 17) (.bool (decide (g<0)))).put (some 18) (.bool (decide (g<0)))).put (some 19) (.bool (decide (g<0)))).put (some 19) (.bool false)).put (some 20) (.int .i64 g)).put (some 21) (.slice a.p a.n a.c)).put (some 22) (.int .i64 ((a.n:Nat):Int))).put (some 23) (.bool (decide (g≥((a.n:Nat):Int))))).put (some 24) (.bool (decide (g≥((a.n:Nat):Int))))).put (some 25) (.bool (decide (g≥((a.n:Nat):Int))))).put (some 25) (.bool false)).put (some 26) (.slice c.p c.n c.c)).put (some 27) (.int .i64 g)).put (some 28) (.int .i64 target)).put (some 29) (.bool d)).put (some 30) (.bool (!d))).put (some 31) (.bool (!d))).put (some 32) (.slice e.p e.n e.c)).put (some 33) (.int .i64 g)).put (some 34) (.int .i64 target)).put (some 35) o)) w R=MX k m n f j w R:=by kernel_rfl
def Yf:gY P 47 tx (kp f186.body)=true/\gY P 47 tx (kq f186.body)=true:=⟨by kernel_rfl,by kernel_rfl⟩
def Yg(n weights)(h:MD K w n weights):=bM (z8 [7,10,14,15]) #[Iv n,Sv weights] K w func187 h
def Yh(l)(h:ME K w l):=bM (z8 [7,9,14,15] [] [(3,[(3,jZ),(8,jZ)])]) #[Sv l] K w func189 h
def Yi(n weights)(h:MF K w n weights):=bM (z8 [22,27,31,33,39,41,49,56,63,70,76,78,86,88] [] [(10,[(7,.slice),(8,jZ),(32,jZ)]),(20,[(77,jZ)])]) #[Iv n,Sv weights] K w func190 h
def Yj(l a)(h:MG K w l a):=bM {} #[Pv l,Sv a] K w func191 h
def Yk(held b a)(h:MH K w held b a):=bM {(z8 [10,12,34] [] [(2,[(11,jZ)])]:dU)with dyn:=λd=>[27].contains d} #[held,Pv (some b),Pv (some a)] K w func192 h
def Yl(c id)(h:MI K w c id):=bM (z8 [27] [(2,[jQ 8],[6]),(8,[jQ 8],[7]),(10,[jQ 13],[11,12])] [] [(8,[])]) #[Pv c,Iv id] K w func193 h
def Ym(g b a)(h:XP K w g b a):=bM {} #[Iv g,Pv (some b),Pv (some a)] K w func194 h
def Yn(g a)(h:XQ K w g a):=bM {} #[Iv g,Pv (some a)] K w func195 h
def Yo(s f)(h:MJ K w s f):=bM {(z8 [7,9,18] [] [(2,[(8,jZ)])]:dU)with dyn:=λd=>[16].contains d} #[Sv s,f] K w func198 h
def Yp(c id g)(h:MK K w c id g):=bM (z8 [28,41,46,52,62,72,80] [(15,[jQ 13],[11,12]),(16,[jQ 16],[13,14])] [] [(4,[(26,.bool)]),(10,[(10,jZ)]),(16,[])]) #[Pv c,Iv id,Iv g] K w func205 h
def Yq(s a b)(h:ML K w s a b):=bM {(z8:dU)with head:=λr=>(bif r==3 then 11 else 0)} #[Pv s,.agg #[Iv a,Iv b]] K w func207 h
def Yr(t a b)(h:MM K w t a b):=bM {(z8:dU)with head:=λr=>(bif r==1 then 11 else 0)} #[Pv t,.agg #[Iv a,Iv b]] K w func208 h
def Ys(t a b owner)(h:MN K w t a b owner):=bM (z8 [22,29,34] [(2,[jQ 7],[6]),(8,[jQ 10],[8,9])]) #[Pv t,.agg #[Iv a,Iv b],Iv owner] K w func209 h
def Yt(s i)(h:MO K w s i):=bM (z8 [6,13,14]) #[Pv s,Iv i] K w func211 h
def Yu(c g text)(h:MP K w c g text):=bM (z8 [22]) #[Pv c,Iv g,.string text] K w func213 h
def Yv(c a b d e f g i j k)(h:MQ K w c a b d e f g i j k):=bM (z8 [19,32] [(3,[jQ 11],[6]),(5,[jQ 12],[7]),(7,[jQ 12],[7])]) #[Pv c,.agg #[Iv a,Iv b,Iv d,Iv e,Iv f,Iv g,Iv i,.bool j,.bool k]] K w func214 h
def Yw(p a)(h:MR K w p a):=bM {} #[Pv p,Pv (some a)] K w func215 h
def Yx(s a b text)(h:MS K w s a b text):=bM (z8 [14,15,26] [(5,[jQ 7],[6])]) #[Pv s,.agg #[Iv a,Iv b],.string text] K w func216 h
def Yy(s i)(h:MT K w s i):=bM (z8 [10]) #[Pv s,Iv i] K w func217 h
def Yz(p i)(h:MU K w p i):=bM (z8 [7,15] [] [] [(2,[(5,.bool)])]) #[Pv p,Iv i] K w func218 h
end Go.Mp
namespace Go.Mp
open Go Go.Vc Go.Proofs
variable{K:bj0}{w:bI}
variable(K w)
def MY(t:cm)(place a:Int):=
 NN t λd=>qM w d 2 λe=>∃b:Int,∃c:Bool,gE P 120 (.map e) (.agg #[Iv place,Iv a]) true w (.tuple #[Iv b,.bool c])/\cond c (K (Iv b) w) (K (Iv (-1)) w)
def MZ(a:Sl):=
 qI 0 0 w λe n5 d b=>e7 d a.n (qW a d 1 λf=>qD b f λc=>ej c 0 (K (.tuple #[Iv 0,.bool false]) b) (cond (decide (c>62)) (K (.tuple #[Iv 0,.bool false]) b) (cond (decide ((i64.wrap (n5+c))>64)) (K (.tuple #[Iv 0,.bool false]) b) ((e (i64.wrap (n5+c)) (i64.wrap (d+1)) b))))) (K (.tuple #[Iv n5,.bool true]) b)
def M0(n:Int):=
 0<=(u64.wrap n)/\K (.int .u64 (u64.wrap ((u64.wrap (1*2^(min (u64.wrap n).toNat 64)))-1))) w
def M1(x:Int)(c b:Addr):=
 Dr (λa=>qb a c λd=>NN d λa3=>qK a a3 0 λe=>qW e x 2 λa5=>qL a a5 0 λf=>qD a b λg=>K (.bool (f==g)) a) w
def M3(s:Sl)(f:bH):=
 qO 0 w λe a c=>e7 a s.n (qW s a 1 λg=>qD c g λi=>fe P f #[Iv i] c λh d=>∃b,h=.returned (.bool b)/\cond b (K (Iv a) d) ((e (i64.wrap (a+1)) d))) (K (Iv (-1)) c)
def zr(s:Sl)(v:Int):=
 qO 0 w λc b a=>e7 b s.n (qW s b 1 λd=>qD a d λe=>cond (v==e) (K (Iv b) a) ((c (i64.wrap (b+1)) a))) (K (Iv (-1)) a)
def M4(l:Sl):=
 qO 0 w λm c k=>e7 c l.n (qW l c 3 λA=>ql k A λB C D=>qi k λa n=>qU [Iv B,Iv C,Iv D] a n λe=>qh (λh=>cond (c==0) (qL e a 0 λo=>h (o==(-1)) e) (h false e)) λd b=>dO d (qL b a 0 λp=>ej p 0 (K aP2 b) (qL b a 0 λq=>cond (decide (q≥c)) (K aP2 b) (qL b a 1 λr=>qF vN #[Iv r] b λs f=>dO s (K aP2 f) (qL f a 2 λt=>qF vN #[Iv t] f λu i=>dO u (K aP2 i) ((m (i64.wrap (c+1)) i)))))) (qL b a 1 λv=>qF vN #[Iv v] b λx g=>dO x (K aP2 g) (qL g a 2 λy=>qF vN #[Iv y] g λz j=>dO z (K aP2 j) ((m (i64.wrap (c+1)) j))))) (K (.bool (decide (((l.n:Nat):Int)<=64))) k)
def M5(b c d:Int):=
 Al (.cells #[Iv b,Iv c,Iv d] 247) (λa w2=>qL w2 a 2 λe=>qL w2 a 1 λf=>K (Iv (min1 e f)) w2) w
def Eh(l:Sl)(g target:Int):=
 Al (.cells #[.bool false] 4) (λa w2=>qN DL #[Sv l,Iv g,Iv target] w2 λf h=>iJ P 15 f #[12] (kp f238.body) (kq f238.body) .ret (((((((js [Sv l,Iv g,Iv target] 0 .nil).put (some 6) (Pv (some a))).put (some 8) (Sv l)).put (some 9) (Iv g)).put (some 10) (Iv target)).put (some 11) f)) h (λb6 i=>St a (.bool true) (λd=>d.heap[b6]?=some (.deferred (some []))/\∃e:Bool,(d.putObj b6 (.deferred none)).cell? a=some (.bool e)/\K (.bool e) (d.putObj b6 (.deferred none))) i) (λb7 c=>c.heap[b7]?=some (.deferred (some []))/\∃b:Bool,(c.putObj b7 (.deferred none)).cell? a=some (.bool b)/\K (.bool b) (c.putObj b7 (.deferred none)))) w
def M6(a p s:Int):=
 zN y1 #[.int .u64 (u64.wrap a),.int .u64 (u64.wrap p)] w λd e b=>zN vM #[.int .u64 d,.int .u64 e,.int .u64 (u64.wrap s)] b λf g c=>K (Iv (i64.wrap f)) c
def M7(l ef:Sl)(target:Int):=
 qF DJ #[Sv l] w λb a=>cond b (cond (((ef.n:Nat):Int)==((l.n:Nat):Int)) (cond (decide ((0:Int)<=target)) (K (.bool (decide (target<((l.n:Nat):Int)))) a) (K aP2 a)) (K aP2 a)) (K aP2 a)
def M8(l:Sl)(g target:Int):=
 Al (.cells #[Sv l] 245) (λa w2=>qC #[Iv g] w2 λb d=>qC #[Iv target] d λc e=>K (.func (.func adc) #[] #[Pv (some b),Pv (some c),Pv (some a)]) e) w
def M9(a:Int):=
 ej a 0 (K aP3 w) (K (.bool (decide (a>1099511627776))) w)
def Na(s:Sl)(f:bH):=
 qQ DI #[Sv s,f] w λb a=>K (.bool (decide (b≥0))) a
def Ei(x y:Int):=
 0<=(32:Int)/\0<=(32:Int)/\0<=(32:Int)/\0<=(32:Int)/\0<=(32:Int)/\K (.tuple #[.int .u64 (u64.wrap ((u64.wrap ((u64.wrap ((x.fdiv (2^(min (32:Int).toNat 64)))*(y.fdiv (2^(min (32:Int).toNat 64)))))+((u64.wrap ((u64.wrap ((x.fdiv (2^(min (32:Int).toNat 64)))*(dy .u64 y 4294967295)))+((u64.wrap ((dy .u64 x 4294967295)*(dy .u64 y 4294967295))).fdiv (2^(min (32:Int).toNat 64))))).fdiv (2^(min (32:Int).toNat 64)))))+((u64.wrap ((dy .u64 (u64.wrap ((u64.wrap ((x.fdiv (2^(min (32:Int).toNat 64)))*(dy .u64 y 4294967295)))+((u64.wrap ((dy .u64 x 4294967295)*(dy .u64 y 4294967295))).fdiv (2^(min (32:Int).toNat 64))))) 4294967295)+(u64.wrap ((dy .u64 x 4294967295)*(y.fdiv (2^(min (32:Int).toNat 64))))))).fdiv (2^(min (32:Int).toNat 64))))),.int .u64 (u64.wrap (x*y))]) w
def Nb(x:Sl)(cmp:bH):=
 qE KE #[Sv x,Iv ((x.n:Nat):Int),cmp] w λa=>K aP4 a
def Nc(b c d e:Int):=
 Al (.cells #[Iv b,.int .u64 c] 302) (λh w2=>Al (.cells #[Iv d,.int .u64 e] 302) (λi a=>∃f:Int,a.cell? (i.add 1)=some (.int .u64 f)/\∃g:Int,a.cell? (h.add 1)=some (.int .u64 g)/\qQ Kp #[.int .u64 f,.int .u64 g] a λk j=>K (Iv k) j) w2) w
def Nd(x y:Int):=
 qF DV #[.int .u64 x] w λd c=>qF DV #[.int .u64 y] c λb a=>cond d (cond b (K (Iv 0) a) (K (Iv (-1)) a)) (cond b (K (Iv 1) a) (ej x y (K (Iv (-1)) a) (cond (decide (x>y)) (K (Iv 1) a) (K (Iv 0) a))))
def Nf(id:Int)(c b:Addr):=
 Dr (λa=>qc a c λg=>qb a b λh=>NN h λa4=>qM a a4 0 λi=>∃e:Int,∃j:Int,gE P 140 (.map i) (Iv id) false a (.agg #[Iv e,Iv j])/\qF qe #[Sv g,Iv e] a λd f=>K (.bool (!d)) f) w
def Ng(x:Sl)(cmp:bH):=
 qE KF #[Sv x,Iv ((x.n:Nat):Int),cmp] w λa=>K aP4 a
def Nh(a b:Int)(d:Addr):=
 Dr (λc=>qb c d λk=>NN k λa3=>qM c a3 0 λl=>∃m:Int,∃i:Int,gE P 140 (.map l) (Iv b) false c (.agg #[Iv m,Iv i])/\qb c d λn=>NN n λj=>qM c j 0 λo=>∃g:Int,∃e:Int,gE P 140 (.map o) (Iv a) false c (.agg #[Iv g,Iv e])/\qQ Ku #[Iv i,Iv e] c λh f=>K (Iv h) f) w
def Ni(x y:Int):=
 qF DU #[Iv x] w λd c=>qF DU #[Iv y] c λb a=>cond d (cond b (K (Iv 0) a) (K (Iv (-1)) a)) (cond b (K (Iv 1) a) (ej x y (K (Iv (-1)) a) (cond (decide (x>y)) (K (Iv 1) a) (K (Iv 0) a))))
def Nj(c:cm)(id p q r s t u v:Int)(x y:Bool)(chain:Sl):=
 Al (.cells #[Iv p,Iv q,Iv r,Iv s,Iv t,Iv u,Iv v,.bool x,.bool y] 57) (λV w2=>qO 0 w2 λT n d=>e7 n chain.n (qW chain n 1 λU=>qD d U λS=>Dr (λf=>NN c λe=>qZ f (e.add 4) 2 λk=>qQ vy #[Pv c,Iv S] f λB g=>qG g (e.add 4) 2 (Pv k) λW=>qQ KG #[Pv k,Iv S] g λC h=>cond (decide (B≥C)) (K aP2 h) ((T (i64.wrap (n+1)) h))) d) (NN c λa20=>qZ d (a20.add 4) 0 λD=>qj tu #[Pv D] d λl E a=>cond (E !=0) (K aP2 a) (NN c λa26=>qZ a (a26.add 4) 2 λF=>qj vO #[Pv F,Sv chain,Iv 1] a λX Y z=>Dr (λb=>NN c λa33=>qZ b (a33.add 4) 1 λm=>qY b V λG H I J L M N O P=>zJ vK #[Pv c,.agg #[Iv G,Iv H,Iv I,Iv J,Iv L,Iv M,Iv N,.bool O,.bool P]] b λQ i=>qG i (a33.add 4) 1 (Pv m) λZ=>qQ DW #[Pv m,Iv l,.string Q] i λaa j=>NN c λo=>qZ j o 10 λR=>qQ vH #[Pv R,Iv id,Iv 2,Iv l] j λab A=>K aP3 A) z))) w
def Nk(l:cm)(g:Int):=
 qF y4 #[Iv g] w λk b=>dO k (K (.int .u64 0) b) (NN l λa4=>cF (some (a4.add 0)) 64 g 2 λa5=>qL b a5 0 λm=>zU KH #[Iv g,Iv m] b λn j=>Dr (λa=>NN l λc=>cF (some (c.add 0)) 64 g 2 λd=>qL a d 0 λi=>NN l λe=>cF (some (e.add 0)) 64 g 2 λf=>St (f.add 0) (Iv (i64.wrap (i+1))) (λh=>K (.int .u64 n) h) a) j)
def Nl(c:cm)(g:Int):=
 ∃(p:Sl->bi9) (M2:Sl->bI->Nat),(NN c λR=>qZ w R 0 λS=>qJ rW #[Pv S,Iv g] w λk z=>NN c λq=>qZ z (q.add 1) 2 λA=>qj vO #[Pv A,Sv k,Iv 1] z λB C e=>q9 (λm=>cond (C==0) (NN c λr=>qZ e (r.add 1) 0 λD=>qj tu #[Pv D] e λE F f=>cond (F==0) (K (.tuple #[Iv E,Iv (-1),Iv 0]) f) (NN c λa27=>qZ f (a27.add 1) 2 λG=>qQ tn #[Pv G,Sv k,Iv 1] f λU v=>m 0 v)) (m B e)) λb u=>qF tq #[Pv c,Iv b] u λH o=>cond H (p k o) (K (.tuple #[Iv (-1),Iv b,Iv 12]) o))/\∀T:Nat->bH,∀a:Sl,∀l:bI,p a l->NN c λa35=>qZ l (a35.add 1) 2 λI=>qj vO #[Pv I,Sv a,Iv 1] l λJ L h=>q9 (λn=>cond (L==0) (NN c λs=>qZ h (s.add 1) 0 λM=>qj tu #[Pv M] h λN O i=>cond (O==0) (K (.tuple #[Iv N,Iv (-1),Iv 0]) i) (NN c λt=>qZ i (t.add 1) 2 λP=>qQ tn #[Pv P,Sv a,Iv 1] i λV y=>n 0 y)) (n J h)) λd x=>qF tq #[Pv c,Iv d] x λQ j=>cond Q ((p a j/\M2 a j<M2 a l)) (K (.tuple #[Iv (-1),Iv d,Iv 12]) j)
def Nm(l:cm)(x b a:Int):=
 zO DX #[.int .u64 x] w λq u t i=>qg (λr=>dO t (K aP2 i) (qF y4 #[Iv q] i λk f=>dO k (K aP2 f) (NN l λg=>cF (some (g.add 0)) 64 q 2 λh=>qL f h 0 λm=>qF KI #[.int .u64 x,Iv m,Iv a] f λn c=>dO n (K aP2 c) (r c)))) λs=>qF y4 #[Iv b] s λo d=>cond o (Dr (λe=>NN l λa22=>cF (some (a22.add 0)) 64 b 2 λa23=>qL e a23 1 λp=>NN l λa25=>cF (some (a25.add 0)) 64 b 2 λa26=>St (a26.add 1) (Iv (i64.wrap (p+1))) (λj=>K aP3 j) e) d) (K aP3 d)
def Nn(c:cm)(id a g:Int)(text:ByteArray)(ek:Bool):=
 NN c λl=>qZ w (l.add 1) 1 λn=>qQ DW #[Pv n,Iv a,.string text] w λs h=>NN c λm=>qZ h m 10 λo=>qQ CU #[Pv o,Iv id,Iv g] h λp i=>NN c λd=>qZ i d 10 λj=>qQ vH #[Pv j,Iv id,Iv 1,Iv a] i λq b=>NN c λe=>qZ b e 8 λk=>qQ KJ #[Pv k,Iv id,Iv g,.bool ek] b λr f=>K aP4 f
def No(c:cm):=
 NN c λr=>qK w r 12 λp=>qf ⟨none,0,0⟩ 0 w λq h g f=>e7 g p.n (qW p g 3 λa9=>qa f a9 λl m n=>qx f λa j=>qU [Iv l,Iv m,.bool n] a j λb=>qy b a 2 λo=>Al (.cells #[.bool o] 4) (λi k=>∃e:Sl,∃d:bI,Sem.run P (Builtin.append_ #[194,194] 194 #[Sv h,.slice (some i) 1 1]) k=.ok (Sv e) d/\(q e (i64.wrap (g+1)) d)) b) (K (Sv h) f)
def Np(s:cm)(c d:Int):=
 Al (.cells #[Iv c,Iv d] 54) (λb w2=>Dr (λa=>qL a b 1 λg=>cond (decide ((0:Int)<=g)) (qL a b 1 λf=>qL a b 0 λh=>qQ CX #[Pv s,Iv h] a λi e=>zH e b 1 (Iv f) λj=>K (.bool (decide (f<i))) e) (K aP2 a)) w2) w
def Nq(e f:Int):=
 Al (.cells #[Iv e,Iv f] 54) (λk w2=>zD w2 λg i=>zZ i k λl m=>qO 0 i λj a c=>ej a 16 (cF (some g) 16 a 1 λd=>St d (.int .u8 (IntKind.u8.wrap ((IntKind.u8.wrap ((IntKind.u8.wrap ((IntKind.u8.wrap l)*31))+(IntKind.u8.wrap ((IntKind.u8.wrap m)*7))))+(IntKind.u8.wrap a)))) (λh=>(j (i64.wrap (a+1)) h)) c) (∃b:ByteArray,uZ P 272 9 (.slice (nC g 0 16 1) (16-0) (16-0)) c (.string b)/\K (.string b) c)) w
def Nr(s:cm)(i:Int):=
 qR tt #[Pv s,Iv i] w λb a=>cond b.isNone (K (.tuple #[.string (ByteArray.mk #[]),Iv 1]) a) (NN b λa4=>∃c:ByteArray,uZ P 272 9 (.slice (nC a4 0 16 1) (16-0) (16-0)) a (.string c)/\K (.tuple #[.string c,Iv 0]) a)
def Ns(m:cm)(i:Int)(on:Bool):=
 qg (λl=>ej i 0 (K aP2 w) (NN m λa4=>qL w a4 0 λn=>cond (decide (i≥n)) (K aP2 w) (qF KM #[Pv m,Iv i] w λo j=>cond (o==on) (K aP2 j) (l j)))) λw2=>zC D0 #[Iv i] w2 λa k d=>NN m λe=>qK d e 1 λb=>qW b a 1 λf=>∃c:Int,d.cell? f=some (.int .u64 c)/\qW b a 1 λg=>St g (.int .u64 (oW .u64 c k)) (λh=>K aP3 h) d
def YA(x:Int):=
 K (.bool (x !=x)) w
def Nt(n:Int):=
 cond (decide ((0:Int)<=n)) (K (.bool (decide (n<=1099511627776))) w) (K aP2 w)
def Ej(yield:bH)(a f d:Addr):=
 qd w λm c=>qD c a λo=>qD c f λp=>cond (o !=p) (qD c a λq=>yj P none yield #[Iv q] c λn b=>∃e,n=.returned (.bool e)/\dO e (K aP4 b) (qD b a λi=>ej i 0 (K aP4 b) (qc b d λj=>qD b a λk=>qW j k 3 λg=>qL b g 0 λl=>St a (Iv l) (λh=>(([]:bA Nat)= []/\(m h))) b))) (K aP4 c)
variable{K w}
def YB(t place a)(h:MY K w t place a):=bM {} #[Pv t,Iv place,Iv a] K w func219 h
def YC(a)(h:MZ K w a):=bM (z8 [8,10,14,17,22,23,27,28] [] [(3,[(4,jZ),(9,jZ)])]) #[Sv a] K w func231 h
def YD(n)(h:M0 K w n):=bM (z8 [4,5,6]) #[Iv n] K w func232 h
def YE(x b a)(h:M1 K w x b a):=bM {(z8 [14]:dU)with head:=λr=>(bif r==1 then 11 else 0)} #[Iv x,Pv (some b),Pv (some a)] K w func233 h
def YF(s f)(h:M3 K w s f):=bM {(z8 [7,9,18] [] [(2,[(8,jZ)])]:dU)with dyn:=λd=>[16].contains d} #[Sv s,f] K w func234 h
def Ek(s v)(h:zr K w s v):=bM (z8 [7,9,16,18] [] [(2,[(8,jZ)])]) #[Sv s,Iv v] K w func235 h
def YG(l)(h:M4 K w l):=bM (z8 [7,9,14,18,25,30,45,47,48] [] [(2,[(8,jZ)])] [(5,[(5,.bool)])]) #[Sv l] K w func236 h
def YH(a b c)(h:M5 K w a b c):=bM (z8 [7]) #[.agg #[Iv a,Iv b,Iv c]] K w func237 h
def tz:dU:={quiet:=λd=>[14].contains d}
def El:Nat->Bool:=λd=>[].contains d
def YI(l:Sl)(g target:Int)(K:bj0)(w:bI):ni P fV gZ cD tz El f238 #[(.slice l.p l.n l.c),(.int .i64 g),(.int .i64 target)] K w=Eh K w l g target:=by kernel_rfl
def YJ:nj P tz f238 3=true:=by kernel_rfl
def YK(l:Sl)(g target:Int){K:bj0}{w:bI}(h:Eh K w l g target):Calls P y0 #[(Sv l),(Iv g),(Iv target)] w (cC K):=oA mixed func238 YJ (by rw[YI];exact h)
def Nu(e:Addr)(d:Int)(b:Nat)(w:bI)(R:Ending->bi9):Prop:=
 lI b (λa=>ej d 0 (St e (.bool false) (λc=>fg b (some .ret) R c) a) (fg b none R a)) w
def YL(l:Sl)(g target:Int)(c:Addr)(d:bH)(a:Int)(b:Nat)(w:bI)(R:Ending->bi9):mM P fV gZ cD tz El 15 b (kp f238.body) (kq f238.body) (lK [(12,.int .i64 a)] ((((((js [(.slice l.p l.n l.c),(.int .i64 g),(.int .i64 target)] 0 .nil).put (some 6) (.pointer (some c))).put (some 8) (.slice l.p l.n l.c)).put (some 9) (.int .i64 g)).put (some 10) (.int .i64 target)).put (some 11) d)) w R=Nu c a b w R:=by kernel_rfl
def YM:gY P 15 tz (kp f238.body)=true/\gY P 15 tz (kq f238.body)=true:=⟨by kernel_rfl,by kernel_rfl⟩
def YN(a p s)(h:M6 K w a p s):=bM (z8 [13,15,23,28]) #[Iv a,Iv p,Iv s] K w func239 h
def YO(l ef target)(h:M7 K w l ef target):=bM (z8 [11,13,14,18,23,24]) #[Sv l,Sv ef,Iv target] K w func240 h
def YP(l g target)(h:M8 K w l g target):=bM {} #[Sv l,Iv g,Iv target] K w func241 h
def YQ(a)(h:M9 K w a):=bM (z8 [4,7]) #[Iv a] K w func242 h
def YR(s f)(h:Na K w s f):=bM (z8 [8]) #[Sv s,f] K w func243 h
def Nv(x y)(h:Ei K w x y):=bM (z8 [15,17,19,21,24,27,29,30,32,34,38,39,42,44,46,47,50]) #[.int .u64 x,.int .u64 y] K w func244 h
def YS(x cmp)(h:Nb K w x cmp):=bM (z8 [6]) #[Sv x,cmp] K w func246 h
def YT(a b c d)(h:Nc K w a b c d):=bM {} #[.agg #[Iv a,.int .u64 b],.agg #[Iv c,.int .u64 d]] K w func247 h
def YU(x y)(h:Nd K w x y):=bM (z8 [16,19]) #[.int .u64 x,.int .u64 y] K w func248 h
def YV(id b a)(h:Nf K w id b a):=bM (z8 [] [(1,[jQ 11],[8])]) #[Iv id,Pv (some b),Pv (some a)] K w func250 h
def YW(x cmp)(h:Ng K w x cmp):=bM (z8 [6]) #[Sv x,cmp] K w func251 h
def YX(a b c)(h:Nh K w a b c):=bM (z8 [] [(1,[jQ 16],[14])]) #[Iv a,Iv b,Pv (some c)] K w func252 h
def YY(x y)(h:Ni K w x y):=bM (z8 [16,19]) #[Iv x,Iv y] K w func253 h
def YZ(c id a b d e f g i j k chain)(h:Nj K w c id a b d e f g i j k chain):=bM (z8 [14,16,29,30,41] [(4,[[0,1,3,4,5,6,7,8,2,9,10]],[2,9]),(11,[jQ 10],[8,9])] [(2,[(15,jZ)])]) #[Pv c,Iv id,.agg #[Iv a,Iv b,Iv d,Iv e,Iv f,Iv g,Iv i,.bool j,.bool k],Sv chain] K w func254 h
def Y0(l g)(h:Nk K w l g):=bM (z8 [25] [(4,[jQ 13],[12])]) #[Pv l,Iv g] K w func255 h
def Y1(c g)(h:Nl K w c g):=bM {(z8 [29,40] [] [] [(9,[(8,jZ)])]:dU)with goto:=λl=>(bif l==0 then some [(7,.slice)]else none)} #[Pv c,Iv g] K w func257 h
def Y2(l x b a)(h:Nm K w l x b a):=bM (z8 [47] [(5,[jQ 13],[12])] [] [(4,[])]) #[Pv l,.int .u64 x,Iv b,Iv a] K w func258 h
def Y3(c id a g text ek)(h:Nn K w c id a g text ek):=bM {} #[Pv c,Iv id,Iv a,Iv g,.string text,.bool ek] K w func259 h
def Y4(c)(h:No K w c):=bM (z8 [10,12,20] [] [(3,[(3,.slice),(11,jZ)])]) #[Pv c] K w func261 h
def Y5(s a b)(h:Np K w s a b):=bM (z8 [7,15] [(1,[jQ 13],[9])]) #[Pv s,.agg #[Iv a,Iv b]] K w func262 h
def Y6(a b)(h:Nq K w a b):=bM (z8 [8,9,12,13,14,16,21,22,24,26] [] [(4,[(15,jZ)])]) #[.agg #[Iv a,Iv b]] K w func263 h
def Y7(s i)(h:Nr K w s i):=bM (z8 [11,15]) #[Pv s,Iv i] K w func265 h
def Y8(m i on)(h:Ns K w m i on):=bM (z8 [10,17,24,39] [] [] [(3,[])]) #[Pv m,Iv i,.bool on] K w func266 h
def Y9(x)(h:YA K w x):=bM (z8 [5]) #[Iv x] K w func272 h
def Za(n)(h:Nt K w n):=bM (z8 [4,7]) #[Iv n] K w func273 h
def Nw:dU:={quiet:=λd=>[7,19].contains d,loop:=λr=>(bif r==0 then[]else[])}
def Zb:Nat->Bool:=λd=>[15].contains d
def Zc(yield:bH)(c b a:Addr)(K:bj0)(w:bI):ni P fV gZ cD Nw Zb f274 #[yield,(.pointer (some c)),(.pointer (some b)),(.pointer (some a))] K w=Ej K w yield c b a:=by kernel_rfl
def Zd:nj P Nw f274 4=true:=by kernel_rfl
def Ze(yield:bH)(c b a:Addr){K:bj0}{w:bI}(h:Ej K w yield c b a):Calls P adc #[yield,(Pv (some c)),(Pv (some b)),(Pv (some a))] w (cC K):=oA mixed func274 Zd (by rw[Zc];exact h)
end Go.Mp
namespace Go.Mp
open Go Go.Vc Go.Proofs
variable{K:bj0}{w:bI}
variable(K w)
def Nx(data:Sl)(n:Int)(cmp:bH):=
 qI 0 20 w λj a5 b6 i=>cond (decide (b6<=n)) (qE D1 #[Sv data,Iv a5,Iv b6,cmp] i λk=>(j b6 (i64.wrap (b6+20)) k)) (qE D1 #[Sv data,Iv a5,Iv n,cmp] i λl=>qO 20 l λd a e=>ej a n (qI 0 (i64.wrap (2*a)) e λf a20 b c=>cond (decide (b<=n)) (qE vP #[Sv data,Iv a20,Iv (i64.wrap (a20+a)),Iv b,cmp] c λg=>(f b (i64.wrap (b+(i64.wrap (2*a)))) g)) (cond (decide ((i64.wrap (a20+a))<n)) (qE vP #[Sv data,Iv a20,Iv (i64.wrap (a20+a)),Iv n,cmp] c λh=>(d (i64.wrap (a*2)) h)) ((d (i64.wrap (a*2)) c)))) (K aP4 e))
def Zf(x:Int):=
 K (.bool (x !=x)) w
def Ny(data:Sl)(n:Int)(cmp:bH):=
 qI 0 20 w λj a5 b6 i=>cond (decide (b6<=n)) (qE D2 #[Sv data,Iv a5,Iv b6,cmp] i λk=>(j b6 (i64.wrap (b6+20)) k)) (qE D2 #[Sv data,Iv a5,Iv n,cmp] i λl=>qO 20 l λd a e=>ej a n (qI 0 (i64.wrap (2*a)) e λf a20 b c=>cond (decide (b<=n)) (qE vR #[Sv data,Iv a20,Iv (i64.wrap (a20+a)),Iv b,cmp] c λg=>(f b (i64.wrap (b+(i64.wrap (2*a)))) g)) (cond (decide ((i64.wrap (a20+a))<n)) (qE vR #[Sv data,Iv a20,Iv (i64.wrap (a20+a)),Iv n,cmp] c λh=>(d (i64.wrap (a*2)) h)) ((d (i64.wrap (a*2)) c)))) (K aP4 e))
def Nz(c:cm)(g:Int):=
 qH CJ #[Pv c,Iv g] w λd b e f a=>K (Iv b) a
def NA(p:cm):=
 NN p λc=>qZ w c 0 λf=>qQ KN #[Pv f,Iv 0,.bool false] w λb a=>ej b 0 (K (.tuple #[Iv (-1),Iv 3]) a) (NN p λd=>qZ a d 0 λg=>qF DT #[Pv g,Iv b,.bool true] a λh e=>K (.tuple #[Iv b,Iv 0]) e)
def NB(c:cm)(chain:Sl)(n:Int):=
 qC #[Iv n] w λh w2=>qD w2 h λC=>qF Dj #[Sv chain,Iv C] w2 λD t=>dO D (K (.tuple #[Iv (-1),Iv 1]) t) (qQ Dk #[Pv c,Sv chain,(.func (.func D3) #[] #[Pv (some h)])] t λf u=>cond (decide (f≥0)) (Dr (λg=>NN c λj=>cF (some (j.add 0)) 64 f 4 λk=>qL g k 2 λv=>NN c λl=>cF (some (l.add 0)) 64 f 4 λm=>St (m.add 2) (Iv (i64.wrap (v+1))) (λq=>K (.tuple #[Iv f,Iv 22]) q) g) u) (qO 0 u λi e a=>e7 e chain.n (qW chain e 1 λa22=>qD a a22 λx=>NN c λa24=>cF (some (a24.add 0)) 64 x 4 λa25=>Dr (λb=>NN (some a25) λa27=>qL b a27 0 λy=>qD b h λz=>NN (some a25) λo=>St (o.add 0) (Iv (i64.wrap (y+z))) (λr=>Dr (λd=>NN (some a25) λa33=>qL d a33 3 λA=>NN (some a25) λa35=>qL d a35 0 λB=>NN (some a25) λp=>St (p.add 3) (Iv (eR A B)) (λs=>(i (i64.wrap (e+1)) s)) d) r) b) a) (K (.tuple #[Iv (-1),Iv 0]) a)))
def NC(s:cm)(i:Int)(text:ByteArray):=
 qR tt #[Pv s,Iv i] w λc a=>cond c.isNone (K (Iv 1) a) (cond (((text.size:Nat):Int) !=16) (K (Iv 1) a) (NN c λa4=>∃d:Int,∃b:bI,Sem.run P (Builtin.copy_ #[272,9] 3 #[.slice (nC a4 0 16 1) (16-0) (16-0),.string text]) a=.ok (Iv d) b/\K (Iv 0) b))
def ND(g:Int):=
 cond (decide ((0:Int)<=g)) (K (.bool (decide (g<64))) w) (K aP2 w)
def NF(group clock:Int):=
 ej clock 0 (K (.int .u64 0) w) (qJ D4 #[] w λe b=>qC #[Iv 1,Iv group,Iv (dy .i64 clock 1099511627775)] b λa c=>zB DY #[Sv e,.slice (some a) 3 3] c λf g d=>K (.int .u64 f) d)
def NG(x:Int):=
 qJ D4 #[] w λm k=>zF Dc #[Sv m,.int .u64 x] k λc n b=>qg (λj=>cond (n !=0) (K (.tuple #[Iv 0,Iv 0,.bool false]) b) (qW c 0 1 λd=>qD b d λg=>cond (g !=1) (K (.tuple #[Iv 0,Iv 0,.bool false]) b) (j b))) λl=>Dr (λa=>qW c 1 1 λe=>qD a e λh=>qW c 2 1 λf=>qD a f λi=>K (.tuple #[Iv h,Iv i,.bool true]) a) l
def NH(x clock a:Int):=
 qQ KO #[.int .u64 x,Iv clock] w λc b=>cond (decide ((0:Int)<=c)) (K (.bool (decide (c<=a))) b) (K aP2 b)
def NI(l:cm)(id group:Int)(ek:Bool):=
 qg (λt=>ej id 0 (K (Iv 1) w) (cond (decide (id>16777216)) (K (Iv 1) w) (ej group 0 (K (Iv 1) w) (cond (decide (group>16777216)) (K (Iv 1) w) (t w))))) λw2=>NN l λa4=>qM w2 a4 0 λv=>∃q:Int,∃r:Int,∃s:Bool,gE P 140 (.map v) (Iv id) true w2 (.tuple #[.agg #[Iv q,Iv r],.bool s])/\qw w2 λu h=>qU [Iv q,Iv r] u h λe=>cond s (K (Iv 4) e) (qw e λa i=>qU [Iv group,Iv 0] a i λb=>qg (λd=>cond ek (qL b a 1 λm=>St (a.add 1) (Iv (i64.wrap (m+1))) (λk=>d k) b) (d b)) λj=>Dr (λc=>NN l λg=>qM c g 0 λn=>zZ c a λo p=>∃f:bI,Sem.run P (Instr.mapUpdate 140 (.map n) (Iv id) (.agg #[Iv o,Iv p])) c=.ok () f/\K (Iv 0) f) j)
def NJ(a values:Sl):=
 qg (λp=>qp DF #[Sv a] w λr q i=>dO q (K (.tuple #[.int .u64 0,Iv 1]) i) (cond (((values.n:Nat):Int) !=((a.n:Nat):Int)) (K (.tuple #[.int .u64 0,Iv 1]) i) (p i))) λw2=>zA 0 0 0 w2 λo g b d c=>e7 d a.n (qW a d 1 λk=>qD c k λh=>qW values d 1 λl=>qD c l λe=>qg (λj=>ej e 0 (K (.tuple #[.int .u64 0,Iv 1]) c) (zU DG #[Iv h] c λn f=>cond (decide ((u64.wrap e)>n)) (K (.tuple #[.int .u64 0,Iv 1]) f) (j f))) λm=>0<=b/\(o (ji .u64 g (u64.wrap ((u64.wrap e)*2^(min b.toNat 64)))) (u64.wrap (b+(u64.wrap h))) (i64.wrap (d+1)) m)) (K (.tuple #[.int .u64 g,Iv 0]) c)
def NK(m:cm)(i:Int):=
 qg (λf=>ej i 0 (K aP2 w) (NN m λa4=>qL w a4 0 λg=>cond (decide (i≥g)) (K aP2 w) (f w))) λw2=>zC D0 #[Iv i] w2 λh j b=>NN m λc=>qK b c 1 λe=>qW e h 1 λd=>∃a:Int,b.cell? d=some (.int .u64 a)/\K (.bool ((dy .u64 a j) !=0)) b
def NL(i:Int):=
 0<=(6:Int)/\0<=(u64.wrap (dy .i64 i 63))/\K (.tuple #[Iv (i.fdiv (2^(min (6:Int).toNat 64))),.int .u64 (u64.wrap (1*2^(min (u64.wrap (dy .i64 i 63)).toNat 64)))]) w
def acl(data:Sl)(a b:Int)(cmp:bH):=
 qO (i64.wrap (a+1)) w λh i5 o=>ej i5 b (qO i5 o λA c B=>qg (λi=>Dr (λd=>cond (decide (c>a)) (qW data c 2 λj=>zM d j λr s=>qW data (i64.wrap (c-1)) 2 λk=>zM d k λt u=>fe P cmp #[.agg #[Iv r,.int .u64 s],.agg #[Iv t,.int .u64 u]] d λm f=>∃g,m=.returned (Iv g)/\ej g 0 (i f) ((h (i64.wrap (i5+1)) f))) ((h (i64.wrap (i5+1)) d))) B) λn=>Dr (λe=>qW data (i64.wrap (c-1)) 2 λa25=>zM e a25 λv x=>qW data c 2 λa28=>zM e a28 λy z=>qW data c 2 λl=>qU [Iv v,.int .u64 x] l e λp=>qW data (i64.wrap (c-1)) 2 λa33=>qU [Iv y,.int .u64 z] a33 p λq=>(A (i64.wrap (c-1)) q)) n) (K aP4 o)
def NM(data:Sl)(a m b:Int)(cmp:bH):=
 cond ((i64.wrap (m-a))==1) (qI m b w λT i5 j aj=>ej i5 j (0<=(1:Int)/\Dr (λQ=>qW data (i64.wrap ((u64.wrap (i64.wrap (i5+j))).fdiv (2^(min (1:Int).toNat 64)))) 2 λaL=>zM Q aL λaM ap=>qW data a 2 λW=>zM Q W λaq ar=>fe P cmp #[.agg #[Iv aM,.int .u64 ap],.agg #[Iv aq,.int .u64 ar]] Q λaf z=>∃J,af=.returned (Iv J)/\ej J 0 ((T (i64.wrap ((i64.wrap ((u64.wrap (i64.wrap (i5+j))).fdiv (2^(min (1:Int).toNat 64))))+1)) j z)) ((T i5 (i64.wrap ((u64.wrap (i64.wrap (i5+j))).fdiv (2^(min (1:Int).toNat 64)))) z))) aj) (qO a aj λU d A=>cond (decide (d<(i64.wrap (i5-1)))) (Dr (λl=>qW data (i64.wrap (d+1)) 2 λa23=>zM l a23 λau av=>qW data d 2 λa26=>zM l a26 λaw ax=>qW data d 2 λa29=>qU [Iv au,.int .u64 av] a29 l λak=>qW data (i64.wrap (d+1)) 2 λX=>qU [Iv aw,.int .u64 ax] X ak λal=>(U (i64.wrap (d+1)) al)) A) (K aP4 A))) (cond ((i64.wrap (b-m))==1) (qI a m w λr i37 g B=>ej i37 g (0<=(1:Int)/\Dr (λn=>qW data m 2 λa40=>zM n a40 λay az=>qW data (i64.wrap ((u64.wrap (i64.wrap (i37+g))).fdiv (2^(min (1:Int).toNat 64)))) 2 λY=>zM n Y λaA aB=>fe P cmp #[.agg #[Iv ay,.int .u64 az],.agg #[Iv aA,.int .u64 aB]] n λag C=>∃L,ag=.returned (Iv L)/\cond (!(decide (L<0))) ((r (i64.wrap ((i64.wrap ((u64.wrap (i64.wrap (i37+g))).fdiv (2^(min (1:Int).toNat 64))))+1)) g C)) ((r i37 (i64.wrap ((u64.wrap (i64.wrap (i37+g))).fdiv (2^(min (1:Int).toNat 64)))) C))) B) (qO m B λV e D=>cond (decide (e>i37)) (Dr (λo=>qW data (i64.wrap (e-1)) 2 λZ=>zM o Z λaC aD=>qW data e 2 λaa=>zM o aa λaE aF=>qW data e 2 λab=>qU [Iv aC,.int .u64 aD] ab o λam=>qW data (i64.wrap (e-1)) 2 λa63=>qU [Iv aE,.int .u64 aF] a63 am λcX=>(V (i64.wrap (e-1)) cX)) D) (K aP4 D))) (0<=(1:Int)/\zP (λt=>cond (decide (m>(i64.wrap ((u64.wrap (i64.wrap (a+b))).fdiv (2^(min (1:Int).toNat 64)))))) (t (i64.wrap ((i64.wrap ((i64.wrap ((u64.wrap (i64.wrap (a+b))).fdiv (2^(min (1:Int).toNat 64))))+m))-b)) (i64.wrap ((u64.wrap (i64.wrap (a+b))).fdiv (2^(min (1:Int).toNat 64)))) w) (t a m w)) λh ai an=>qI h ai an λs c f p=>ej c f (0<=(1:Int)/\Dr (λq=>qW data (i64.wrap ((i64.wrap ((i64.wrap ((i64.wrap ((u64.wrap (i64.wrap (a+b))).fdiv (2^(min (1:Int).toNat 64))))+m))-1))-(i64.wrap ((u64.wrap (i64.wrap (c+f))).fdiv (2^(min (1:Int).toNat 64)))))) 2 λad=>zM q ad λaG aH=>qW data (i64.wrap ((u64.wrap (i64.wrap (c+f))).fdiv (2^(min (1:Int).toNat 64)))) 2 λae=>zM q ae λaI aJ=>fe P cmp #[.agg #[Iv aG,.int .u64 aH],.agg #[Iv aI,.int .u64 aJ]] q λah E=>∃M,ah=.returned (Iv M)/\cond (!(decide (M<0))) ((s (i64.wrap ((i64.wrap ((u64.wrap (i64.wrap (c+f))).fdiv (2^(min (1:Int).toNat 64))))+1)) f E)) ((s c (i64.wrap ((u64.wrap (i64.wrap (c+f))).fdiv (2^(min (1:Int).toNat 64)))) E))) p) (qg (λu=>qh (λv=>ej c m (v (decide (m<(i64.wrap ((i64.wrap ((i64.wrap ((u64.wrap (i64.wrap (a+b))).fdiv (2^(min (1:Int).toNat 64))))+m))-c)))) p) (v false p)) λaK G=>cond aK (qE KP #[Sv data,Iv c,Iv m,Iv (i64.wrap ((i64.wrap ((i64.wrap ((u64.wrap (i64.wrap (a+b))).fdiv (2^(min (1:Int).toNat 64))))+m))-c)),cmp] G λao=>u ao) (u G)) λF=>qg (λx=>qh (λy=>ej a c (y (decide (c<(i64.wrap ((u64.wrap (i64.wrap (a+b))).fdiv (2^(min (1:Int).toNat 64)))))) F) (y false F)) λR I=>cond R (qE vP #[Sv data,Iv a,Iv c,Iv (i64.wrap ((u64.wrap (i64.wrap (a+b))).fdiv (2^(min (1:Int).toNat 64)))),cmp] I λN=>x N) (x I)) λH=>qh (λi=>cond (decide ((i64.wrap ((u64.wrap (i64.wrap (a+b))).fdiv (2^(min (1:Int).toNat 64))))<(i64.wrap ((i64.wrap ((i64.wrap ((u64.wrap (i64.wrap (a+b))).fdiv (2^(min (1:Int).toNat 64))))+m))-c)))) (i (decide ((i64.wrap ((i64.wrap ((i64.wrap ((u64.wrap (i64.wrap (a+b))).fdiv (2^(min (1:Int).toNat 64))))+m))-c))<b)) H) (i false H)) λS k=>cond S (qE vP #[Sv data,Iv (i64.wrap ((u64.wrap (i64.wrap (a+b))).fdiv (2^(min (1:Int).toNat 64)))),Iv (i64.wrap ((i64.wrap ((i64.wrap ((u64.wrap (i64.wrap (a+b))).fdiv (2^(min (1:Int).toNat 64))))+m))-c)),Iv b,cmp] k λO=>K aP4 O) (K aP4 k))))
def NO(data:Sl)(a b:Int)(cmp:bH):=
 qO (i64.wrap (a+1)) w λh i5 o=>ej i5 b (qO i5 o λu c v=>qg (λi=>Dr (λd=>cond (decide (c>a)) (qW data c 1 λj=>qD d j λq=>qW data (i64.wrap (c-1)) 1 λk=>qD d k λr=>fe P cmp #[Iv q,Iv r] d λl f=>∃g,l=.returned (Iv g)/\ej g 0 (i f) ((h (i64.wrap (i5+1)) f))) ((h (i64.wrap (i5+1)) d))) v) λm=>Dr (λe=>qW data (i64.wrap (c-1)) 1 λa23=>qD e a23 λs=>qW data c 1 λa25=>qD e a25 λt=>qW data c 1 λa27=>St a27 (Iv s) (λn=>qW data (i64.wrap (c-1)) 1 λa29=>St a29 (Iv t) (λp=>(u (i64.wrap (c-1)) p)) n) e) m) (K aP4 o)
def NP(data:Sl)(a m b:Int)(cmp:bH):=
 cond ((i64.wrap (m-a))==1) (qI m b w λN i5 i ag=>ej i5 i (0<=(1:Int)/\Dr (λM=>qW data (i64.wrap ((u64.wrap (i64.wrap (i5+i))).fdiv (2^(min (1:Int).toNat 64)))) 1 λaB=>qD M aB λaC=>qW data a 1 λR=>qD M R λan=>fe P cmp #[Iv aC,Iv an] M λZ x=>∃I,Z=.returned (Iv I)/\ej I 0 ((N (i64.wrap ((i64.wrap ((u64.wrap (i64.wrap (i5+i))).fdiv (2^(min (1:Int).toNat 64))))+1)) i x)) ((N i5 (i64.wrap ((u64.wrap (i64.wrap (i5+i))).fdiv (2^(min (1:Int).toNat 64)))) x))) ag) (qO a ag λO d y=>cond (decide (d<(i64.wrap (i5-1)))) (Dr (λj=>qW data (i64.wrap (d+1)) 1 λS=>qD j S λao=>qW data d 1 λa23=>qD j a23 λap=>qW data d 1 λa25=>St a25 (Iv ao) (λae=>qW data (i64.wrap (d+1)) 1 λa27=>St a27 (Iv ap) (λaf=>(O (i64.wrap (d+1)) af)) ae) j) y) (K aP4 y))) (cond ((i64.wrap (b-m))==1) (qI a m w λo i33 g z=>ej i33 g (0<=(1:Int)/\Dr (λk=>qW data m 1 λa36=>qD k a36 λaq=>qW data (i64.wrap ((u64.wrap (i64.wrap (i33+g))).fdiv (2^(min (1:Int).toNat 64)))) 1 λT=>qD k T λar=>fe P cmp #[Iv aq,Iv ar] k λaa A=>∃J,aa=.returned (Iv J)/\cond (!(decide (J<0))) ((o (i64.wrap ((i64.wrap ((u64.wrap (i64.wrap (i33+g))).fdiv (2^(min (1:Int).toNat 64))))+1)) g A)) ((o i33 (i64.wrap ((u64.wrap (i64.wrap (i33+g))).fdiv (2^(min (1:Int).toNat 64)))) A))) z) (qO m z λQ e B=>cond (decide (e>i33)) (Dr (λl=>qW data (i64.wrap (e-1)) 1 λU=>qD l U λau=>qW data e 1 λV=>qD l V λav=>qW data e 1 λa53=>St a53 (Iv au) (λah=>qW data (i64.wrap (e-1)) 1 λW=>St W (Iv av) (λai=>(Q (i64.wrap (e-1)) ai)) ah) l) B) (K aP4 B))) (0<=(1:Int)/\zP (λq=>cond (decide (m>(i64.wrap ((u64.wrap (i64.wrap (a+b))).fdiv (2^(min (1:Int).toNat 64)))))) (q (i64.wrap ((i64.wrap ((i64.wrap ((u64.wrap (i64.wrap (a+b))).fdiv (2^(min (1:Int).toNat 64))))+m))-b)) (i64.wrap ((u64.wrap (i64.wrap (a+b))).fdiv (2^(min (1:Int).toNat 64)))) w) (q a m w)) λh ad aj=>qI h ad aj λp c f cX=>ej c f (0<=(1:Int)/\Dr (λn=>qW data (i64.wrap ((i64.wrap ((i64.wrap ((i64.wrap ((u64.wrap (i64.wrap (a+b))).fdiv (2^(min (1:Int).toNat 64))))+m))-1))-(i64.wrap ((u64.wrap (i64.wrap (c+f))).fdiv (2^(min (1:Int).toNat 64)))))) 1 λX=>qD n X λaw=>qW data (i64.wrap ((u64.wrap (i64.wrap (c+f))).fdiv (2^(min (1:Int).toNat 64)))) 1 λY=>qD n Y λax=>fe P cmp #[Iv aw,Iv ax] n λab C=>∃L,ab=.returned (Iv L)/\cond (!(decide (L<0))) ((p (i64.wrap ((i64.wrap ((u64.wrap (i64.wrap (c+f))).fdiv (2^(min (1:Int).toNat 64))))+1)) f C)) ((p c (i64.wrap ((u64.wrap (i64.wrap (c+f))).fdiv (2^(min (1:Int).toNat 64)))) C))) cX) (qg (λr=>qh (λs=>ej c m (s (decide (m<(i64.wrap ((i64.wrap ((i64.wrap ((u64.wrap (i64.wrap (a+b))).fdiv (2^(min (1:Int).toNat 64))))+m))-c)))) cX) (s false cX)) λay E=>cond ay (qE KQ #[Sv data,Iv c,Iv m,Iv (i64.wrap ((i64.wrap ((i64.wrap ((u64.wrap (i64.wrap (a+b))).fdiv (2^(min (1:Int).toNat 64))))+m))-c)),cmp] E λak=>r ak) (r E)) λD=>qg (λt=>qh (λu=>ej a c (u (decide (c<(i64.wrap ((u64.wrap (i64.wrap (a+b))).fdiv (2^(min (1:Int).toNat 64)))))) D) (u false D)) λaz G=>cond az (qE vR #[Sv data,Iv a,Iv c,Iv (i64.wrap ((u64.wrap (i64.wrap (a+b))).fdiv (2^(min (1:Int).toNat 64)))),cmp] G λal=>t al) (t G)) λF=>qh (λv=>cond (decide ((i64.wrap ((u64.wrap (i64.wrap (a+b))).fdiv (2^(min (1:Int).toNat 64))))<(i64.wrap ((i64.wrap ((i64.wrap ((u64.wrap (i64.wrap (a+b))).fdiv (2^(min (1:Int).toNat 64))))+m))-c)))) (v (decide ((i64.wrap ((i64.wrap ((i64.wrap ((u64.wrap (i64.wrap (a+b))).fdiv (2^(min (1:Int).toNat 64))))+m))-c))<b)) F) (v false F)) λaA H=>cond aA (qE vR #[Sv data,Iv (i64.wrap ((u64.wrap (i64.wrap (a+b))).fdiv (2^(min (1:Int).toNat 64)))),Iv (i64.wrap ((i64.wrap ((i64.wrap ((u64.wrap (i64.wrap (a+b))).fdiv (2^(min (1:Int).toNat 64))))+m))-c)),Iv b,cmp] H λam=>K aP4 am) (K aP4 H))))
def NQ(m:cm)(a:Int)(on:Bool):=
 NN m λq=>qK w q 1 λs=>qO 0 w λn b e=>e7 b s.n (NN m λr=>qK e r 1 λt=>qW t b 1 λo=>∃f:Int,e.cell? o=some (.int .u64 f)/\q9 (λg=>dO on (g (oX .u64 f) e) (g f e)) λi c=>q9 (λh=>0<=(6:Int)/\cond (decide ((i64.wrap ((eR a 0)-(i64.wrap (b*2^(min (6:Int).toNat 64)))))≥64)) ((n (i64.wrap (b+1)) c)) (cond (decide ((i64.wrap ((eR a 0)-(i64.wrap (b*2^(min (6:Int).toNat 64)))))>0)) (0<=(u64.wrap (i64.wrap ((eR a 0)-(i64.wrap (b*2^(min (6:Int).toNat 64))))))/\0<=(u64.wrap (i64.wrap ((eR a 0)-(i64.wrap (b*2^(min (6:Int).toNat 64))))))/\h (u64.wrap ((i.fdiv (2^(min (u64.wrap (i64.wrap ((eR a 0)-(i64.wrap (b*2^(min (6:Int).toNat 64)))))).toNat 64)))*2^(min (u64.wrap (i64.wrap ((eR a 0)-(i64.wrap (b*2^(min (6:Int).toNat 64)))))).toNat 64))) c) (h i c))) λk j=>cond (k==0) ((n (i64.wrap (b+1)) j)) (0<=(6:Int)/\qQ KR #[.int .u64 k] j λl d=>NN m λa23=>qL d a23 0 λp=>cond (decide ((i64.wrap ((i64.wrap (b*2^(min (6:Int).toNat 64)))+l))<p)) (K (Iv (i64.wrap ((i64.wrap (b*2^(min (6:Int).toNat 64)))+l))) d) ((n (i64.wrap (b+1)) d)))) (K (Iv (-1)) e)
def NR(c d e f:Int)(a:Addr):=
 Al (.cells #[Iv c,Iv d,Iv e,Iv f] 107) (λb w2=>qD w2 a λg=>cond (decide (g>0)) (qL w2 b 0 λh=>qD w2 a λi=>qL w2 b 1 λj=>K (.bool (decide ((i64.wrap (h+i))>j))) w2) (K aP2 w2)) w
def NS:=
 qC #[Iv 1,Iv 8,Iv 40] w λa w2=>K (.slice (some a) 3 3) w2
def NT(x clock:Int):=
 zO DX #[.int .u64 x] w λd b c a=>dO c (K (Iv (-1)) a) (ej clock 0 (K (Iv (-1)) a) (K (Iv (dy .i64 (i64.wrap (clock-b)) 1099511627775)) a))
def NU(data:Sl)(a m b:Int)(cmp:bH):=
 qI (i64.wrap (m-a)) (i64.wrap (b-m)) w λe i5 c d=>cond (i5 !=c) (cond (decide (i5>c)) (qE y5 #[Sv data,Iv (i64.wrap (m-i5)),Iv m,Iv c,cmp] d λg=>(e (i64.wrap (i5-c)) c g)) (qE y5 #[Sv data,Iv (i64.wrap (m-i5)),Iv (i64.wrap ((i64.wrap (m+c))-i5)),Iv i5,cmp] d λh=>(e i5 (i64.wrap (c-i5)) h))) (qE y5 #[Sv data,Iv (i64.wrap (m-i5)),Iv m,Iv i5,cmp] d λf=>K aP4 f)
def NV(data:Sl)(a m b:Int)(cmp:bH):=
 qI (i64.wrap (m-a)) (i64.wrap (b-m)) w λe i5 c d=>cond (i5 !=c) (cond (decide (i5>c)) (qE y6 #[Sv data,Iv (i64.wrap (m-i5)),Iv m,Iv c,cmp] d λg=>(e (i64.wrap (i5-c)) c g)) (qE y6 #[Sv data,Iv (i64.wrap (m-i5)),Iv (i64.wrap ((i64.wrap (m+c))-i5)),Iv i5,cmp] d λh=>(e i5 (i64.wrap (c-i5)) h))) (qE y6 #[Sv data,Iv (i64.wrap (m-i5)),Iv m,Iv i5,cmp] d λf=>K aP4 f)
def NW(x:Int):=
 cond (x==0) (K (Iv 64) w) (0<=(58:Int)/\cF (some (⟨2,0,none⟩:Addr)) 64 ((u64.wrap ((dy .u64 x (u64.wrap (0-x)))*285870213051353865)).fdiv (2^(min (58:Int).toNat 64))) 1 λb=>∃a:Int,w.cell? b=some (.int .u8 a)/\K (Iv (i64.wrap a)) w)
def NX(data:Sl)(a b n:Int)(cmp:bH):=
 qO 0 w λl i5 i=>ej i5 n (Dr (λc=>qW data (i64.wrap (b+i5)) 2 λm=>zM c m λo p=>qW data (i64.wrap (a+i5)) 2 λd=>zM c d λj k=>qW data (i64.wrap (a+i5)) 2 λe=>qU [Iv o,.int .u64 p] e c λg=>qW data (i64.wrap (b+i5)) 2 λf=>qU [Iv j,.int .u64 k] f g λh=>(l (i64.wrap (i5+1)) h)) i) (K aP4 i)
def NY(data:Sl)(a b n:Int)(cmp:bH):=
 qO 0 w λj i5 h=>ej i5 n (Dr (λc=>qW data (i64.wrap (b+i5)) 1 λk=>qD c k λl=>qW data (i64.wrap (a+i5)) 1 λa9=>qD c a9 λi=>qW data (i64.wrap (a+i5)) 1 λd=>St d (Iv l) (λf=>qW data (i64.wrap (b+i5)) 1 λe=>St e (Iv i) (λg=>(j (i64.wrap (i5+1)) g)) f) c) h) (K aP4 h)
variable{K w}
def Zg(data n cmp)(h:Nx K w data n cmp):=bM (z8 [13,22,30,32,35,40,47,48,51,54,62] [] [(2,[(7,jZ),(8,jZ)]),(7,[(6,jZ)]),(9,[(7,jZ),(8,jZ)])]) #[Sv data,Iv n,cmp] K w func276 h
def Zh(x)(h:Zf K w x):=bM (z8 [5]) #[.int .u64 x] K w func277 h
def Zi(data n cmp)(h:Ny K w data n cmp):=bM (z8 [13,22,30,32,35,40,47,48,51,54,62] [] [(2,[(7,jZ),(8,jZ)]),(7,[(6,jZ)]),(9,[(7,jZ),(8,jZ)])]) #[Sv data,Iv n,cmp] K w func279 h
def Zj(c g)(h:Nz K w c g):=bM {} #[Pv c,Iv g] K w func280 h
def Zk(p)(h:NA K w p):=bM (z8 [11]) #[Pv p] K w func281 h
def Zl(c chain n)(h:NB K w c chain n):=bM (z8 [21,29,36,38,51,63,66] [(5,[jQ 13],[12]),(11,[jQ 9],[8]),(12,[jQ 13],[12])] [(8,[(37,jZ)])]) #[Pv c,Sv chain,Iv n] K w func282 h
def Zm(s i text)(h:NC K w s i text):=bM (z8 [12,15,16]) #[Pv s,Iv i,.string text] K w func283 h
def Zn(g)(h:ND K w g):=bM (z8 [4,7]) #[Iv g] K w func284 h
def Zo(group clock)(h:NF K w group clock):=bM (z8 [8,13]) #[Iv group,Iv clock] K w func285 h
def Zp(x)(h:NG K w x):=bM {(z8 [14,19] [] [] [(4,[])]:dU)with head:=λr=>(bif r==4 then 9 else 0)} #[.int .u64 x] K w func286 h
def Zq(x clock a)(h:NH K w x clock a):=bM (z8 [12,16]) #[.int .u64 x,Iv clock,Iv a] K w func287 h
def Zr(l id group ek)(h:NI K w l id group ek):=bM (z8 [13,16,20,24,41] [(9,[jQ 7],[6])] [] [(3,[]),(9,[])]) #[Pv l,Iv id,Iv group,.bool ek] K w func288 h
def Zs(a values)(h:NJ K w a values):=bM (z8 [22,24,25,28,30,39,42,45,49,51,52,55,56,57] [] [(6,[(8,.int .u64),(9,.int .u64),(29,jZ)])] [(4,[]),(11,[])]) #[Sv a,Sv values] K w func291 h
def Zt(m i)(h:NK K w m i):=bM (z8 [8,15,30,31] [] [] [(3,[])]) #[Pv m,Iv i] K w func293 h
def Zu(i)(h:NL K w i):=bM (z8 [5,7,8,9]) #[Iv i] K w func294 h
def Zv(data a b cmp)(h:acl K w data a b cmp):=bM {(z8 [11,14,16,20,29,33,36,41,44] [(4,[jQ 17],[14]),(6,[jQ 18],[15,17])] [(1,[(8,jZ)]),(4,[(9,jZ)])] [(6,[])]:dU)with dyn:=λd=>[32].contains d} #[Sv data,Iv a,Iv b,cmp] K w func296 h
def Zw(data a m b cmp)(h:NM K w data a m b cmp):=bM {(z8 [27,28,33,36,37,38,39,50,52,57,58,60,65,68,79,80,85,88,89,90,91,102,105,110,112,117,120,131,132,133,134,137,140,143,148,151,154,155,156,157,162,170,173,177,180,184,194,198,208,212] [(5,[jQ 11],[9]),(11,[jQ 18],[15,17]),(17,[jQ 12],[9]),(23,[jQ 18],[15,17]),(35,[jQ 14],[11])] [(3,[(10,jZ),(11,jZ)]),(9,[(13,jZ)]),(15,[(14,jZ),(15,jZ)]),(21,[(17,jZ)]),(33,[(20,jZ),(21,jZ)])] [(32,[(20,jZ),(21,jZ)]),(40,[(185,.bool)]),(41,[]),(42,[(199,.bool)]),(43,[]),(44,[(213,.bool)])]:dU)with dyn:=λd=>[49,101,169].contains d} #[Sv data,Iv a,Iv m,Iv b,cmp] K w func297 h
def Zx(data a b cmp)(h:NO K w data a b cmp):=bM {(z8 [11,14,16,20,29,33,36,41,44] [(4,[jQ 17],[14]),(6,[jQ 18],[15,17])] [(1,[(8,jZ)]),(4,[(9,jZ)])] [(6,[])]:dU)with dyn:=λd=>[32].contains d} #[Sv data,Iv a,Iv b,cmp] K w func298 h
def Zy(data a m b cmp)(h:NP K w data a m b cmp):=bM {(z8 [27,28,33,36,37,38,39,50,52,57,58,60,65,68,79,80,85,88,89,90,91,102,105,110,112,117,120,131,132,133,134,137,140,143,148,151,154,155,156,157,162,170,173,177,180,184,194,198,208,212] [(5,[jQ 11],[9]),(11,[jQ 18],[15,17]),(17,[jQ 12],[9]),(23,[jQ 18],[15,17]),(35,[jQ 14],[11])] [(3,[(10,jZ),(11,jZ)]),(9,[(13,jZ)]),(15,[(14,jZ),(15,jZ)]),(21,[(17,jZ)]),(33,[(20,jZ),(21,jZ)])] [(32,[(20,jZ),(21,jZ)]),(40,[(185,.bool)]),(41,[]),(42,[(199,.bool)]),(43,[]),(44,[(213,.bool)])]:dU)with dyn:=λd=>[49,101,169].contains d} #[Sv data,Iv a,Iv m,Iv b,cmp] K w func299 h
def Zz(m a on)(h:NQ K w m a on):=bM (z8 [12,17,19,34,35,38,41,44,45,47,48,50,52,55,61,63] [] [(3,[(18,jZ)])] [(8,[(8,.int .u64)]),(12,[(8,.int .u64)])]) #[Pv m,Iv a,.bool on] K w func300 h
def ZA(b c d e a)(h:NR K w b c d e a):=bM (z8 [5,10,13]) #[.agg #[Iv b,Iv c,Iv d,Iv e],Pv (some a)] K w func301 h
def ZB(h:NS K w):=bM {} #[] K w func302 h
def ZC(x clock)(h:NT K w x clock):=bM (z8 [18,22,23]) #[.int .u64 x,Iv clock] K w func303 h
def ZD(data a m b cmp)(h:NU K w data a m b cmp):=bM (z8 [14,17,20,23,27,34,38,41,43,49,53] [] [(2,[(10,jZ),(11,jZ)])]) #[Sv data,Iv a,Iv m,Iv b,cmp] K w func306 h
def ZE(data a m b cmp)(h:NV K w data a m b cmp):=bM (z8 [14,17,20,23,27,34,38,41,43,49,53] [] [(2,[(10,jZ),(11,jZ)])]) #[Sv data,Iv a,Iv m,Iv b,cmp] K w func307 h
def ZF(x)(h:NW K w x):=bM (z8 [4,8,9,10,13]) #[.int .u64 x] K w func308 h
def ZG(data a b n cmp)(h:NX K w data a b n cmp):=bM (z8 [13,15,19,23,27,33] [(3,[jQ 24],[21,23])] [(1,[(10,jZ)])]) #[Sv data,Iv a,Iv b,Iv n,cmp] K w func309 h
def ZH(data a b n cmp)(h:NY K w data a b n cmp):=bM (z8 [13,15,19,23,27,33] [(3,[jQ 24],[21,23])] [(1,[(10,jZ)])]) #[Sv data,Iv a,Iv b,Iv n,cmp] K w func310 h
end Go.Mp
