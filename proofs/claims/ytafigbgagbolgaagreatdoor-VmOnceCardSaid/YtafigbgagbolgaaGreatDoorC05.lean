/- Part of a proof about the core: of its walks and plain laws. -/
import Derived.Test.YtafigbgagbolgaaGreatDoorC04
set_option linter.all false
set_option maxRecDepth 100000
open Go.IntKind(i64 u64)
namespace Go.Mp
open Go Go.Vc Go.Proofs
variable{K:bh7}{w:World}
variable(K w)
def DU(s:Sl)(seq:Value):=
 Al (.cells #[Sv s] 22) (λb w2=>ib P 13 seq #[7] (jO Go.Proofs.Tryz.f109.body) (jP Go.Proofs.Tryz.f109.body) .ret (((((iQ [Sv s,seq] 0 .nil).put (some 2) (Pv (some b))).put (some 4) (.slice none 0 0)).put (some 6) seq)) w2 (λb3 a=>qc a b λd=>a.heap[b3]?=some (.deferred (some []))/\K (Sv d) (a.putObj b3 (.deferred none))) (λb4 c=>c.heap[b4]?=some (.deferred (some []))/\K (.slice none 0 0) (c.putObj b4 (.deferred none)))) w
def DV(yield:Value)(e b:Addr):=
 qb w e λN=>qD w b λO=>qF jR #[Pv N,Iv O] w λQ M=>qd M λc f=>cond Q (qD f b λs=>cond (decide (s≥0)) (qD f b λt=>yd P none yield #[Iv t] f λm g=>∃h,m=.returned (.bool h)/\cond (!h) (K (.tuple #[]) g) (Dr (λa=>(qb a e λi=>(NN i λd=>((qK a d 0 λu=>(qD a b λv=>(qW u v 2 λa20=>((qL a a20 0 λx=>(St b (Iv x) (λn=>(([]:List Nat)= []/\(c n))) a)/\True)/\True)/\True)/\True)/\True)/\((qD a b λy=>(qK a d 0 λz=>(qW z y 2 λa25=>((qL a a25 0 λA=>(St b (Iv A) (λo=>(([]:List Nat)= []/\(c o))) a)/\True)/\True)/\True)/\True)/\True)/\True))/\((qD a b λB=>((qK a d 0 λC=>(qW C B 2 λj=>((qL a j 0 λD=>(St b (Iv D) (λp=>(([]:List Nat)= []/\(c p))) a)/\True)/\True)/\True)/\True)/\True)/\True)/\True))/\((qD a b λE=>(NN i λk=>((qK a k 0 λF=>(qW F E 2 λa36=>((qL a a36 0 λG=>(St b (Iv G) (λq=>(([]:List Nat)= []/\(c q))) a)/\True)/\True)/\True)/\True)/\True)/\True)/\True)/\True))/\((qD a b λH=>(qb a e λI=>(NN I λa41=>((qK a a41 0 λJ=>(qW J H 2 λl=>((qL a l 0 λL=>(St b (Iv L) (λr=>(([]:List Nat)= []/\(c r))) a)/\True)/\True)/\True)/\True)/\True)/\True)/\True)/\True)/\True)) g)) (K (.tuple #[]) f)) (K (.tuple #[]) f)
def Lp(n:Int):=
 0<=(6:Int)/\∃b:Sl,∃a:World,Sem.run P (Instr.makeSlice 179 (Iv ((i64.wrap ((i64.wrap ((min1 (dy n 0) 65536)+64))-1)).fdiv (2^(min (6:Int).toNat 64)))) (Iv ((i64.wrap ((i64.wrap ((min1 (dy n 0) 65536)+64))-1)).fdiv (2^(min (6:Int).toNat 64))))) w=.ok (Sv b) a/\Al (.cells #[Iv (min1 (dy n 0) 65536),Sv b] 181) (λc d=>K (Pv (some c)) d) a
def Lq(t:cg)(parent:Int):=
 qF jR #[Pv t,Iv parent] w λm h=>cond (!m) (K (.tuple #[Iv (-1),Iv 2]) h) (qQ C0 #[Pv t,Iv parent] h λn a=>cond (decide (n≥7)) (K (.tuple #[Iv (-1),Iv 21]) a) (NN t λl=>qK a l 0 λo=>cond (decide (((o.n:Nat):Int)≥64)) (K (.tuple #[Iv (-1),Iv 3]) a) (NN t λa9=>qK a a9 0 λj=>Al (.cells #[Iv parent,.bool true] 133) (λg i=>∃d:Sl,∃b:World,Sem.run P (Builtin.append_ #[97,97] 97 #[Sv j,.slice (some g) 1 1]) i=.ok (Sv d) b/\NN t λe=>St (e.add 0) (Sv d) (λc=>NN t λf=>qK c f 0 λk=>K (.tuple #[Iv (i64.wrap (((k.n:Nat):Int)-1)),Iv 0]) c) b) a)))
def Lr(t:cg)(g:Int):=
 qF jR #[Pv t,Iv g] w λc a=>cond (!c) (K (Iv (-1)) a) (NN t λa4=>qK a a4 0 λd=>qW d g 2 λb=>qL a b 0 λe=>K (Iv e) a)
def Ls(t:cg)(g:Int):=
 cond (g==0) (K (Iv 1) w) (qF jR #[Pv t,Iv g] w λe b=>cond (!e) (K (Iv 2) b) (qJ JH #[Pv t,Iv g] b λf a=>cond (decide (((f.n:Nat):Int)>0)) (K (Iv 4) a) (NN t λd=>qK a d 0 λh=>qW h g 2 λa9=>St (a9.add 1) (.bool false) (λc=>K (Iv 0) c) a)))
def Lt(t:cg)(owner:Int):=
 Al (.cells #[Pv t] 80) (λa w2=>qC #[Iv owner] w2 λd b=>qb b a λg=>qJ vw #[Pv g] b λh e=>qJ C2 #[Sv h,(.func (.func JI) #[] #[Pv (some a),Pv (some d)])] e λc f=>K (Sv c) f) w
def Lu(t:cg)(id owner:Int):=
 qC #[Iv owner] w λa w2=>qQ yM #[Pv t,Iv id,(.func (.func C3) #[] #[Pv (some a)])] w2 λc b=>K (Iv c) b
def Lv(l:cg)(a c:Int):=
 qC #[Iv c] w λb w2=>qg (λe=>qD w2 b λh=>cond (decide (h<0)) (K (Iv 0) w2) (qD w2 b λi=>cond (decide (i>16777216)) (K (Iv 0) w2) (e w2))) λf=>qQ C4 #[Pv l,Iv a,(.func (.func JJ) #[] #[Pv (some b)])] f λd g=>K (Iv d) g
def Lw(c:cg)(chain:Sl)(n:Int):=
 qC #[Iv n] w λf w2=>qD w2 f λq=>qF C5 #[Sv chain,Iv q] w2 λr l=>cond (!r) (K (Iv 1) l) (qQ C6 #[Pv c,Sv chain,(.func (.func C7) #[] #[Pv (some f)])] l λs m=>cond (decide (s≥0)) (K (Iv 2) m) (qO 0 m λg d a=>cond (decide (d<((chain.n:Nat):Int))) (qW chain d 1 λh=>qD a h λe=>Dr (λb=>NN c λi=>cx (some (i.add 0)) 64 e 4 λj=>qL b j 0 λo=>qD b f λp=>NN c λa22=>cx (some (a22.add 0)) 64 e 4 λa23=>St (a23.add 0) (Iv (i64.wrap (o-p))) (λk=>(g (i64.wrap (d+1)) k)) b) a) (K (Iv 0) a)))
def Lx(c:cg)(g n:Int):=
 qg (λh=>qF yD #[Iv g] w λi e=>cond (!i) (K (Iv 1) e) (qF C8 #[Iv n] e λj f=>cond (!j) (K (Iv 1) f) (h f))) λw2=>NN c λa=>cx (some (a.add 0)) 64 g 4 λb=>St (b.add 1) (Iv n) (λd=>K (Iv 0) d) w2
def Ly(t:cg)(g:Int):=
 Al (.cells #[Pv t] 62) (λa w2=>qC #[Iv g] w2 λd b=>qb b a λi=>qD b d λj=>qF jR #[Pv i,Iv j] b λk c=>cond (!k) (K (.slice none 0 0) c) (qb c a λf=>qJ C9 #[Pv f,(.func (.func Da) #[] #[Pv (some a),Pv (some d)])] c λh e=>K (Sv h) e)) w
def Lz(l:cg)(group:Int):=
 qQ C4 #[Pv l,Iv group,(.func (.func JK) #[] #[])] w λb a=>K (Iv b) a
def LA(c:cg)(target:Int)(own:Value):=
 NN c λai=>qK w ai 12 λU=>qf ⟨none,0,0⟩ 0 w λah f e x=>cond (decide (e<((U.n:Nat):Int))) (qW U e 3 λa9=>qa x a9 λO Q R=>qx x λg E=>qU [Iv O,Iv Q,.bool R] g E λh=>NN c λz=>qK h z 13 λS=>qW S e 1 λA=>qD h A λT=>qi h λa F=>qU [Iv T,Iv 0,Iv 0] a F λj=>qg (λi=>NN c λa26=>qZ j a26 0 λV=>qF jR #[Pv V,Iv e] j λW l=>cond W (Dr (λm=>qa m g λr s t=>qQ om #[Pv c,Iv e] m λX n=>qa n g λY Z aa=>((.agg #[Iv Y,Iv Z,.bool aa]):Value)=(.agg #[Iv r,Iv s,.bool t])/\eX P own #[.agg #[Iv r,Iv s,.bool t]] n λC G=>∃u,C=.returned (Iv u)/\St (a.add 1) (Iv X) (λH=>St (a.add 2) (Iv u) (λI=>i I) H) G) l) (i l)) λk=>ql k a λab ad ae=>Al (.cells #[Iv ab,Iv ad,Iv ae] 247) (λD J=>∃v:Sl,∃o:World,Sem.run P (Builtin.append_ #[245,245] 245 #[Sv f,.slice (some D) 1 1]) J=.ok (Sv v) o/\(ah v (i64.wrap (e+1)) o)) k) (qJ JL #[Sv f,Iv target] x λaf L=>∃b:Sl,∃p:World,Sem.run P (Instr.makeSlice 194 (Iv ((f.n:Nat):Int)) (Iv ((f.n:Nat):Int))) L=.ok (Sv b) p/\qO 0 p λy d q=>cond (decide (d<((b.n:Nat):Int))) (qF Db #[Sv f,Sv af,Iv target,Iv d] q λag M=>qW b d 1 λB=>St B (.bool ag) (λN=>(y (i64.wrap (d+1)) N)) M) (K (Sv b) q))
def WK(a b:Int)(c:Bool):=
 Al (.cells #[Iv a,Iv b,.bool c] 189) (λd w2=>qL w2 d 0 λe=>K (Iv e) w2) w
def WL(a b:Int)(c:Bool):=
 Al (.cells #[Iv a,Iv b,.bool c] 189) (λd w2=>qL w2 d 1 λe=>K (Iv e) w2) w
def LB(l:cg)(group:Int):=
 NN l λr=>qM w r 0 λs=>∃b:cg,∃o:World,Sem.run P (Instr.range 140 (.map s)) w=.ok (Pv b) o/\qO 0 o λi n9 p=>(∃f:World,Sem.run P (Instr.next (Pv b) false 0) p=.ok (.tuple #[.bool false]) f/\K (Iv n9) f)\/(∃j:Value,∃m:Value,∃g:World,Sem.run P (Instr.next (Pv b) false 0) p=.ok (.tuple #[.bool true,j,m]) g/\∃k:Value,∃d:Int,∃e:Int,∃h:World,Sem.run P (Instr.entry (Pv b)) g=.ok (.tuple #[k,.agg #[Iv d,Iv e]]) h/\qw h λc n=>qU [Iv d,Iv e] c n λa=>qL a c 0 λq=>cond (q==group) ((i (i64.wrap (n9+1)) a)) ((i n9 a)))
def LC(n:Int)(weights:Sl):=
 qF Dc #[Iv n,Sv weights] w λai Q=>cond (!ai) (K (.slice none 0 0) Q) (Dr (λT=>(∃j:Sl,∃W:World,Sem.run P (Instr.makeSlice 22 (Iv ((weights.n:Nat):Int)) (Iv ((weights.n:Nat):Int))) T=.ok (Sv j) W/\qJ vC #[Sv weights] W λm ah=>qO n ah λz n14 p=>qg (λD=>cond (decide (n14>0)) (qQ vD #[Sv m] p λaa q=>cond (decide (aa>0)) (D q) (K (Sv j) q)) (K (Sv j) p)) λR=>qJ yN #[Iv n14,Sv m] R λx S=>qI n14 0 S λA n28 a c=>cond (decide (a<((x.n:Nat):Int))) (qW x a 1 λF=>qD c F λh=>qW m a 1 λa32=>qD c a32 λi=>qW j a 1 λG=>qD c G λab=>qW j a 1 λa36=>St a36 (Iv (i64.wrap (ab+(min1 h i)))) (λr=>qW m a 1 λH=>qD r H λad=>qW m a 1 λa40=>St a40 (Iv (i64.wrap (ad-(min1 h i)))) (λU=>(A (i64.wrap (n28-(min1 h i))) (i64.wrap (a+1)) U)) r) c) ((z n28 c)))/\(qJ vC #[Sv weights] T λe V=>∃f:Sl,∃s:World,Sem.run P (Instr.makeSlice 22 (Iv ((weights.n:Nat):Int)) (Iv ((weights.n:Nat):Int))) V=.ok (Sv f) s/\qO n s λB g t=>qg (λE=>cond (decide (g>0)) (qQ vD #[Sv e] t λae u=>cond (decide (ae>0)) (E u) (K (Sv f) u)) (K (Sv f) t)) λX=>qJ yN #[Iv g,Sv e] X λy Y=>qI g 0 Y λC o b d=>cond (decide (b<((y.n:Nat):Int))) (qW y b 1 λI=>qD d I λk=>qW e b 1 λJ=>qD d J λl=>qW f b 1 λL=>qD d L λaf=>qW f b 1 λM=>St M (Iv (i64.wrap (af+(min1 k l)))) (λv=>qW e b 1 λN=>qD v N λag=>qW e b 1 λO=>St O (Iv (i64.wrap (ag-(min1 k l)))) (λZ=>(C (i64.wrap (o-(min1 k l))) (i64.wrap (b+1)) Z)) v) d) ((B o d)))) Q)
def LD(c:cg)(target:Int):=
 NN c λa=>qZ w a 0 λe=>qJ tF #[Pv e,Iv target] w λf b=>qF yI #[Pv c,Iv target,Sv f,.bool true] b λg d=>K (.bool g) d
def LF(s:cg):=
 NN s λa=>qK w a 0 λb=>K (Iv ((b.n:Nat):Int)) w
def LG(s:cg)(file:Int):=
 qg (λa=>cond (decide (file<0)) (K (Iv 0) w) (NN s λa4=>qK w a4 0 λd=>cond (decide (file≥((d.n:Nat):Int))) (K (Iv 0) w) (a w))) λw2=>NN s λb=>qK w2 b 0 λe=>qW e file 1 λc=>qD w2 c λf=>K (Iv f) w2
def LH(c:cg)(j k g:Int):=
 Al (.cells #[Iv j,Iv k] 54) (λp w2=>qg (λL=>Dr (λq=>NN c λM=>qZ q M 7 λO=>zZ q p λP y=>zQ yR #[Pv O,.agg #[Iv P,Iv y]] q λQ z d=>cond (z !=0) (K (.tuple #[Iv (-1),Iv (-1),Iv 2]) d) (NN c λr=>qZ d r 0 λA=>qF jR #[Pv A,Iv g] d λB m=>cond (!B) (K (.tuple #[Iv (-1),Iv (-1),Iv 2]) m) (L m))) w2) λN=>Dr (λe=>NN c λs=>qZ e s 10 λC=>zZ e p λD E=>qQ Dj #[Pv C,.agg #[Iv D,Iv E]] e λh n=>q9 (λl=>cond (decide (h<0)) (Dr (λf=>NN c λa33=>qZ f a33 10 λF=>zZ f p λG H=>qj Dk #[Pv F,.agg #[Iv G,Iv H],Iv g] f λI R v=>l I v) n) (l h n)) λa u=>qj Di #[Pv c,Iv a,Iv g] u λo i b=>cond (i==0) (K (.tuple #[Iv a,Iv (-1),Iv 0]) b) (cond (decide (h<0)) (NN c λt=>qZ b t 10 λJ=>qQ CV #[Pv J,Iv a] b λS x=>K (.tuple #[Iv (-1),Iv o,Iv i]) x) (K (.tuple #[Iv (-1),Iv o,Iv i]) b))) N) w
def LI(c:cg)(id:Int):=
 NN c λm=>qZ w m 10 λo=>qX pU #[Pv o,Iv id] w λp q r s t g h i j k n=>qV n λb e=>qU [Iv p,Iv q,Iv r,Iv s,Iv t,Iv g,Iv h,.bool i,.bool j] b e λf=>Dr (λa=>qL a b 3 λd=>cond (k==0) (qL a b 2 λl=>K (.tuple #[Iv d,.bool (l==1)]) a) (K (.tuple #[Iv d,.bool false]) a)) f
def LJ(s:cg)(i a:Int):=
 qR tI #[Pv s,Iv i] w λc b=>cond c.isNone (K (.tuple #[.int .u8 0,Iv 1]) b) (cond (decide (a<0)) (K (.tuple #[.int .u8 0,Iv 1]) b) (cond (decide (a≥16)) (K (.tuple #[.int .u8 0,Iv 1]) b) (NN c λa4=>cx (some a4) 16 a 1 λa5=>∃d:Int,b.cell? a5=some (.int .u8 d)/\K (.tuple #[.int .u8 d,Iv 0]) b)))
def LL(l:cg)(id:Int):=
 NN l λk=>qM w k 0 λn=>∃h:Int,∃i:Int,∃j:Bool,gk P 140 (.map n) (Iv id) true w (.tuple #[.agg #[Iv h,Iv i],.bool j])/\qw w λd m=>qU [Iv h,Iv i] d m λe=>cond (!j) (K (Iv 2) e) (Dr (λb=>NN l λc=>qM b c 0 λf=>qL b d 0 λg=>∃a:World,Sem.run P (Instr.mapUpdate 140 (.map f) (Iv id) (.agg #[Iv g,Iv 0])) b=.ok () a/\K (Iv 0) a) e)
def LM(c:cg)(id g:Int):=
 NN c λH=>qZ w H 10 λJ=>qX pU #[Pv J,Iv id] w λL M N O P l m n o p I=>qV I λb i=>qU [Iv L,Iv M,Iv N,Iv O,Iv P,Iv l,Iv m,.bool n,.bool o] b i λd=>qg (λf=>cond (p !=0) (K (.tuple #[Iv (-1),Iv (-1),Iv 2]) d) (NN c λh=>qZ d h 0 λq=>qF jR #[Pv q,Iv g] d λr a=>cond (!r) (K (.tuple #[Iv (-1),Iv (-1),Iv 2]) a) (qL a b 2 λs=>cond (s==0) (K (.tuple #[Iv (-1),Iv (-1),Iv 2]) a) (f a)))) λe=>qY e b λt u v x y z A B C=>zJ vF #[Pv c,.agg #[Iv t,Iv u,Iv v,Iv x,Iv y,Iv z,Iv A,.bool B,.bool C]] e λD j=>zX Dl #[Pv c,Iv g,.string D] j λE F G k=>K (.tuple #[Iv E,Iv F,Iv G]) k
def LN(c:cg)(g:Int):=
 NN c λj=>qZ w j 0 λl=>qF jR #[Pv l,Iv g] w λm b=>cond (!m) (K (.tuple #[Iv (-1),Iv (-1),Iv 2]) b) (∃h:Sl,∃a:World,Sem.run P (Instr.makeSlice 272 (Iv 16) (Iv 16)) b=.ok (Sv h) a/\∃i:ByteArray,u3 P 272 9 (Sv h) a (.string i)/\zX Dl #[Pv c,Iv g,.string i] a λd e f k=>K (.tuple #[Iv d,Iv e,Iv f]) k)
def LO(s:cg)(i a b:Int):=
 qR tI #[Pv s,Iv i] w λd c=>cond d.isNone (K (Iv 1) c) (cond (decide (a<0)) (K (Iv 1) c) (cond (decide (a≥16)) (K (Iv 1) c) (NN d λa4=>cx (some a4) 16 a 1 λa5=>St a5 (.int .u8 b) (λe=>K (Iv 0) e) c)))
def LP(t:cg)(id:Int)(e6:Bool):=
 Al (.cells #[.bool e6] 4) (λa w2=>qQ yM #[Pv t,Iv id,(.func (.func Dm) #[] #[Pv (some a)])] w2 λc b=>K (Iv c) b) w
def LQ(s:Sl):=
 cond s.p.isNone (K (.slice none 0 0) w) (zY #[] w λc w2=>∃b:Sl,∃a:World,Sem.run P (Builtin.append_ #[109,109] 109 #[.slice (some c) 0 0,Sv s]) w2=.ok (Sv b) a/\K (Sv b) a)
def LR(t:cg)(id n:Int):=
 NN t λe=>qM w e 0 λh=>∃a:cg,gk P 117 (.map h) (Iv id) false w (Pv a)/\cond a.isNone (K (.tuple #[Iv 0,Iv 2]) w) (cond (decide (n<(-1000))) (K (.tuple #[Iv 0,Iv 1]) w) (cond (decide (n>1000)) (K (.tuple #[Iv 0,Iv 1]) w) (NN a λa4=>qL w a4 5 λi=>cond (decide ((i64.wrap (i+n))<0)) (K (.tuple #[Iv 0,Iv 1]) w) (NN a λf=>qL w f 5 λj=>NN a λg=>St (g.add 5) (Iv (i64.wrap (j+n))) (λc=>NN a λb=>qL c b 5 λd=>K (.tuple #[Iv d,Iv 0]) c) w))))
def LS(c:cg)(id k l m n o p q:Int)(r s:Bool):=
 Al (.cells #[Iv k,Iv l,Iv m,Iv n,Iv o,Iv p,Iv q,.bool r,.bool s] 57) (λa w2=>qh (λj=>qL w2 (a.add 0) 0 λL=>cond (decide (L≥0)) (qy w2 a 8 λM=>j M w2) (j false w2)) λJ u=>cond J (Dr (λd=>NN c λe=>qZ d e 7 λg=>zZ d (a.add 0) λh i=>qY d a λv x y z A B C D E=>zJ vF #[Pv c,.agg #[Iv v,Iv x,Iv y,Iv z,Iv A,Iv B,Iv C,.bool D,.bool E]] d λF b=>zZ b (a.add 0) λG H=>((.agg #[Iv G,Iv H]):Value)=(.agg #[Iv h,Iv i])/\qG b e 7 (Pv g) λN=>qQ Dn #[Pv g,.agg #[Iv h,Iv i],.string F] b λO f=>NN c λa32=>qZ f a32 10 λI=>qQ CR #[Pv I,Iv id,.bool false] f λP t=>K (.tuple #[]) t) u) (K (.tuple #[]) u)) w
def LU(c d e:cg)(a:Int)(chain:Sl):=
 Al (.cells #[Pv c,Pv d,Pv e] 76) (λb w2=>qZ w2 b 1 λj=>qQ JV #[Pv j,Iv a] w2 λn g=>qZ g b 0 λk=>qQ JW #[Pv k,Iv a] g λl h=>qZ h b 2 λi=>qQ tE #[Pv i,Sv chain,Iv 1] h λm f=>K (.tuple #[]) f) w
def LV(l:cg)(id:Int):=
 NN l λg=>qM w g 0 λj=>∃d:Int,∃e:Int,∃f:Bool,gk P 140 (.map j) (Iv id) true w (.tuple #[.agg #[Iv d,Iv e],.bool f])/\qw w λh i=>qU [Iv d,Iv e] h i λb=>cond (!f) (K (Iv 2) b) (NN l λa9=>qM b a9 0 λc=>∃a:World,Sem.run P (Builtin.delete_ #[140,3] 0 #[.map c,Iv id]) b=.ok (.tuple #[]) a/\K (Iv 0) a)
def LW(t:cg)(id place a:Int):=
 NN t λak=>qM w ak 0 λam=>∃b:cg,gk P 117 (.map am) (Iv id) false w (Pv b)/\cond b.isNone (K (Iv 2) w) (cond (decide (place<0)) (K (Iv 1) w) (cond (decide (place>2)) (K (Iv 1) w) (cond (decide (a<0)) (K (Iv 1) w) (cond (place==0) (cond (a !=0) (K (Iv 1) w) (qQ Dp #[Pv t,Iv place,Iv a] w λah v=>cond (decide (ah≥0)) (cond (ah !=id) (K (Iv 4) v) (Dr (λk=>NN t λal=>qM k al 2 λan=>NN b λx=>qL k x 2 λT=>NN b λy=>qL k y 3 λU=>∃l:World,Sem.run P (Builtin.delete_ #[120,276] 0 #[.map an,.agg #[Iv T,Iv U]]) k=.ok (.tuple #[]) l/\NN b λz=>St (z.add 2) (Iv place) (λQ=>NN b λA=>St (A.add 3) (Iv a) (λf=>cond (place !=0) (NN t λB=>qM f B 2 λV=>∃m:World,Sem.run P (Instr.mapUpdate 120 (.map V) (.agg #[Iv place,Iv a]) (Iv id)) f=.ok () m/\K (Iv 0) m) (K (Iv 0) f)) Q) l) v)) (Dr (λc=>NN t λa23=>qM c a23 2 λW=>NN b λa25=>qL c a25 2 λX=>NN b λa27=>qL c a27 3 λY=>∃n:World,Sem.run P (Builtin.delete_ #[120,276] 0 #[.map W,.agg #[Iv X,Iv Y]]) c=.ok (.tuple #[]) n/\NN b λC=>St (C.add 2) (Iv place) (λR=>NN b λa32=>St (a32.add 3) (Iv a) (λg=>cond (place !=0) (NN t λD=>qM g D 2 λZ=>∃o:World,Sem.run P (Instr.mapUpdate 120 (.map Z) (.agg #[Iv place,Iv a]) (Iv id)) g=.ok () o/\K (Iv 0) o) (K (Iv 0) g)) R) n) v))) (qQ Dp #[Pv t,Iv place,Iv a] w λu h=>cond (decide (u≥0)) (cond (u !=id) (K (Iv 4) h) (Dr (λd=>NN t λa41=>qM d a41 2 λaa=>NN b λE=>qL d E 2 λab=>NN b λF=>qL d F 3 λad=>∃p:World,Sem.run P (Builtin.delete_ #[120,276] 0 #[.map aa,.agg #[Iv ab,Iv ad]]) d=.ok (.tuple #[]) p/\NN b λG=>St (G.add 2) (Iv place) (λS=>NN b λH=>St (H.add 3) (Iv a) (λi=>cond (place !=0) (NN t λI=>qM i I 2 λae=>∃q:World,Sem.run P (Instr.mapUpdate 120 (.map ae) (.agg #[Iv place,Iv a]) (Iv id)) i=.ok () q/\K (Iv 0) q) (K (Iv 0) i)) S) p) h)) (Dr (λe=>NN t λJ=>qM e J 2 λaf=>NN b λL=>qL e L 2 λag=>NN b λM=>qL e M 3 λai=>∃r:World,Sem.run P (Builtin.delete_ #[120,276] 0 #[.map af,.agg #[Iv ag,Iv ai]]) e=.ok (.tuple #[]) r/\NN b λa63=>St (a63.add 2) (Iv place) (λcH=>NN b λN=>St (N.add 3) (Iv a) (λj=>cond (place !=0) (NN t λO=>qM j O 2 λaj=>∃s:World,Sem.run P (Instr.mapUpdate 120 (.map aj) (.agg #[Iv place,Iv a]) (Iv id)) j=.ok () s/\K (Iv 0) s) (K (Iv 0) j)) cH) r) h))))))
def LX(t:cg)(id:Int):=
 NN t λk=>qM w k 0 λm=>∃b:cg,gk P 117 (.map m) (Iv id) false w (Pv b)/\cond b.isNone (K (Iv 2) w) (NN b λa4=>qL w a4 5 λn=>cond (decide (n>0)) (K (Iv 4) w) (NN b λl=>qL w l 2 λo=>cond (o !=0) (K (Iv 4) w) (Dr (λd=>NN t λa9=>qM d a9 1 λg=>NN b λe=>zZ d (e.add 0) λh i=>∃a:World,Sem.run P (Builtin.delete_ #[119,54] 0 #[.map g,.agg #[Iv h,Iv i]]) d=.ok (.tuple #[]) a/\NN t λf=>qM a f 0 λj=>∃c:World,Sem.run P (Builtin.delete_ #[117,3] 0 #[.map j,Iv id]) a=.ok (.tuple #[]) c/\K (Iv 0) c) w)))
variable{K w}
def tL:dS:={}
def DW:Nat->Bool:=λd=>[].contains d
def WM(s:Sl)(seq:Value)(K:bh7)(w:World):mV P fD gG cz tL DW Go.Proofs.Tryz.f109 #[(.slice s.p s.n s.c),seq] K w=DU K w s seq:=by kernel_rfl
def WN:mW P tL Go.Proofs.Tryz.f109 2=true:=by kernel_rfl
def WO(s:Sl)(seq:Value){K:bh7}{w:World}(h:DU K w s seq):Calls P Jk #[(Sv s),seq] w (bW K):=oh mixed Go.Proofs.Tryz.func109 WN (by rw[WM];exact h)
def LY(d:Addr)(j:Int)(c:Nat)(w:World)(R:Ending->bh6):Prop:=
 kU c (λg=>qc g d λi=>qC #[Iv j] g λh e=>∃b:Sl,∃a:World,Sem.run P (Builtin.append_ #[22,22] 22 #[Sv i,.slice (some h) 1 1]) e=.ok (Sv b) a/\St d (Sv b) (λf=>e0 c none R f) a) w
def WQ(s:Sl)(seq:Value)(b:Addr)(c:Int)(a:Nat)(w:World)(R:Ending->bh6):ma P fD gG cz tL DW 13 a (jO Go.Proofs.Tryz.f109.body) (jP Go.Proofs.Tryz.f109.body) (kW [(7,.int .i64 c)] ((((iQ [(.slice s.p s.n s.c),seq] 0 .nil).put (some 2) (.pointer (some b))).put (some 4) (.slice none 0 0)).put (some 6) seq)) w R=LY b c a w R:=by kernel_rfl
def WR:gF P 13 tL (jO Go.Proofs.Tryz.f109.body)=true/\gF P 13 tL (jP Go.Proofs.Tryz.f109.body)=true:=⟨by kernel_rfl,by kernel_rfl⟩
def LZ:dS:={quiet:=λd=>[11].contains d,loop:=λr=>(bif r==1 then[]else[])}
def WS:Nat->Bool:=λd=>[23].contains d
def WT(yield:Value)(b a:Addr)(K:bh7)(w:World):mV P fD gG cz LZ WS Go.Proofs.Tryz.f110 #[yield,(.pointer (some b)),(.pointer (some a))] K w=DV K w yield b a:=by kernel_rfl
def WU:mW P LZ Go.Proofs.Tryz.f110 3=true:=by kernel_rfl
def WV(yield:Value)(b a:Addr){K:bh7}{w:World}(h:DV K w yield b a):Calls P tD #[yield,(Pv (some b)),(Pv (some a))] w (bW K):=oh mixed Go.Proofs.Tryz.func110 WU (by rw[WT];exact h)
def WW(n)(h:Lp K w n):=bL (z8 [4,5,8,9,10]) #[Iv n] K w Tryz.func111 h
def WX(t parent)(h:Lq K w t parent):=bL (z8 [15,21,22,38,39]) #[Pv t,Iv parent] K w Tryz.func112 h
def WY(t g)(h:Lr K w t g):=bL {} #[Pv t,Iv g] K w Tryz.func113 h
def WZ(t g)(h:Ls K w t g):=bL (z8 [7,17,18]) #[Pv t,Iv g] K w Tryz.func114 h
def W0(t owner)(h:Lt K w t owner):=bL {} #[Pv t,Iv owner] K w Tryz.func115 h
def W1(t id owner)(h:Lu K w t id owner):=bL {} #[Pv t,Iv id,Iv owner] K w Tryz.func116 h
def W2(l a b)(h:Lv K w l a b):=bL (z8 [8,11] [] [] [(3,[])]) #[Pv l,Iv a,Iv b] K w Tryz.func117 h
def W3(c chain n)(h:Lw K w c chain n):=bL (z8 [19,21,23,34,39] [(8,[jQ 14],[13])] [(6,[(22,jZ)])]) #[Pv c,Sv chain,Iv n] K w Tryz.func118 h
def W4(c g n)(h:Lx K w c g n):=bL (z8 [] [] [] [(3,[])]) #[Pv c,Iv g,Iv n] K w Tryz.func119 h
def W5(t g)(h:Ly K w t g):=bL {} #[Pv t,Iv g] K w Tryz.func121 h
def W6(l group)(h:Lz K w l group):=bL {} #[Pv l,Iv group] K w Tryz.func122 h
def W7(c target own)(h:LA K w c target own):=bL {(z8 [18,20,50,55,58,60,70] [(7,[[0,1,3,4,2,6,5,7,8,9]],[2,5,7,9])] [(3,[(7,.slice),(19,jZ)]),(13,[(59,jZ)])] [(8,[])]:dS)with dyn:=λd=>[43].contains d} #[Pv c,Iv target,own] K w Tryz.func123 h
def W8(a b c)(h:WK K w a b c):=bL {} #[.agg #[Iv a,Iv b,.bool c]] K w Tryz.func124 h
def W9(a b c)(h:WL K w a b c):=bL {} #[.agg #[Iv a,Iv b,.bool c]] K w Tryz.func125 h
def Xa(l group)(h:LB K w l group):=bL {(z8 [20,22] [] [(3,[(5,jZ)])]:dS)with BA:=λd=>(bif d==15 then[.one .raw,.agg [.int .i64,.int .i64]]else[.one .raw,.one .raw])} #[Pv l,Iv group] K w Tryz.func126 h
def Xb(n weights)(h:LC K w n weights):=bL (z8 [15,20,24,29,31,40,46,53,57,58] [(3,[[0,1,3,2,4,5,6],[0,1,3,4,2,5,6]],[2,4])] [(4,[(0,jZ)]),(6,[(0,jZ),(30,jZ)])] [(5,[])]) #[Iv n,Sv weights] K w Tryz.func127 h
def Xc(c target)(h:LD K w c target):=bL {} #[Pv c,Iv target] K w Tryz.func129 h
def Xd(s)(h:LF K w s):=bL (z8 [7]) #[Pv s] K w Tryz.func132 h
def Xe(s file)(h:LG K w s file):=bL (z8 [6,13,14] [] [] [(3,[])]) #[Pv s,Iv file] K w Tryz.func133 h
def Xf(c a b g)(h:LH K w c a b g):=bL (z8 [25,42,63] [(1,[jQ 11],[5]),(4,[jQ 7],[5]),(7,[jQ 11],[6])] [] [(4,[]),(8,[(11,jZ)])]) #[Pv c,.agg #[Iv a,Iv b],Iv g] K w Tryz.func140 h
def Xg(c id)(h:LI K w c id):=bL {(z8 [20,24]:dS)with head:=λr=>(bif r==2 then 11 else 0)} #[Pv c,Iv id] K w Tryz.func143 h
def Xh(s i a)(h:LJ K w s i a):=bL (z8 [13,16,20]) #[Pv s,Iv i,Iv a] K w Tryz.func144 h
def Xi(l id)(h:LL K w l id):=bL (z8 [] [(4,[jQ 9],[8])]) #[Pv l,Iv id] K w Tryz.func145 h
def Xj(c id g)(h:LM K w c id g):=bL (z8 [21,34] [] [] [(4,[])]) #[Pv c,Iv id,Iv g] K w Tryz.func149 h
def Xk(c g)(h:LN K w c g):=bL (z8 [17]) #[Pv c,Iv g] K w Tryz.func150 h
def Xl(s i a b)(h:LO K w s i a b):=bL (z8 [14,17,21]) #[Pv s,Iv i,Iv a,.int .u8 b] K w Tryz.func151 h
def Xm(t id e6)(h:LP K w t id e6):=bL {} #[Pv t,Iv id,.bool e6] K w Tryz.func152 h
def Xn(s)(h:LQ K w s):=bL (z8 [4]) #[Sv s] K w Tryz.func153 h
def Xo(t id n)(h:LR K w t id n):=bL (z8 [17,20,23,31,32,39]) #[Pv t,Iv id,Iv n] K w Tryz.func155 h
def Xp(c id a b d e f g i j k)(h:LS K w c id a b d e f g i j k):=bL (z8 [9] [(2,[jQ 10],[8,9])] [] [(2,[(13,.bool)])]) #[Pv c,Iv id,.agg #[Iv a,Iv b,Iv d,Iv e,Iv f,Iv g,Iv i,.bool j,.bool k]] K w Tryz.func156 h
def Xq(b c d a chain)(h:LU K w b c d a chain):=bL {} #[.agg #[Pv b,Pv c,Pv d],Iv a,Sv chain] K w Tryz.func157 h
def Xr(l id)(h:LV K w l id):=bL {} #[Pv l,Iv id] K w Tryz.func158 h
def Xs(t id place a)(h:LW K w t id place a):=bL (z8 [19,22,25,29,33,36,44,48,72] [(9,[jQ 14],[13])]) #[Pv t,Iv id,Iv place,Iv a] K w Tryz.func159 h
def Xt(t id)(h:LX K w t id):=bL (z8 [14,20,26] [(6,[jQ 9],[8])]) #[Pv t,Iv id] K w Tryz.func160 h
end Go.Mp
namespace Go.Mp
open Go Go.Vc Go.Proofs
variable{K:bh7}{w:World}
variable(K w)
def L1(a:Sl)(x:Int):=
 qp Dq #[Sv a] w λj s e=>qg (λk=>cond (!s) (K (.tuple #[.slice none 0 0,Iv 1]) e) (cond (decide (j<64)) (0<=(u64.wrap j)/\cond ((x.fdiv (2^(min (u64.wrap j).toNat 64))) !=0) (K (.tuple #[.slice none 0 0,Iv 1]) e) (k e)) (k e))) λr=>zV x ⟨none,0,0⟩ 0 r λq h f c b=>cond (decide (c<((a.n:Nat):Int))) (qW a c 1 λl=>qD b l λd=>zU Ds #[Iv d] b λp n=>qC #[Iv (i64.wrap (bV .u64 h p))] n λm o=>∃i:Sl,∃g:World,Sem.run P (Builtin.append_ #[22,22] 22 #[Sv f,.slice (some m) 1 1]) o=.ok (Sv i) g/\0<=(u64.wrap d)/\(q (h.fdiv (2^(min (u64.wrap d).toNat 64))) i (i64.wrap (c+1)) g)) (K (.tuple #[Sv f,Iv 0]) b)
def DX(t:cg)(g:Int):=
 qC #[Iv 0] w λa w2=>St a (Iv (-1)) (λe=>qN Cx #[Pv t,Iv g] e λd f=>ib P 13 d #[9] (jO Go.Proofs.Tryz.f169.body) (jP Go.Proofs.Tryz.f169.body) .ret (((((((iQ [Pv t,Iv g] 0 .nil).put (some 4) (Iv 0)).put (some 5) (Pv (some a))).put (some 6) (Pv t)).put (some 7) (Iv g)).put (some 8) d)) f (λb7 b=>qD b a λh=>b.heap[b7]?=some (.deferred (some []))/\K (Iv h) (b.putObj b7 (.deferred none))) (λb8 c=>c.heap[b8]?=some (.deferred (some []))/\K (Iv 0) (c.putObj b8 (.deferred none)))) w2
def L2(t:cg)(g:Int):=
 Al (.cells #[Pv t] 62) (λa w2=>qC #[Iv g] w2 λd b=>qb b a λi=>qD b d λj=>qF jR #[Pv i,Iv j] b λk c=>cond (!k) (K (.slice none 0 0) c) (qb c a λf=>qJ C9 #[Pv f,(.func (.func Dt) #[] #[Pv (some a),Pv (some d)])] c λh e=>K (Sv h) e)) w
def L3(s:Sl)(del:Value):=
 qQ Du #[Sv s,del] w λg l=>cond (g==(-1)) (K (Sv s) l) (qI g (i64.wrap (g+1)) l λh i8 a f=>cond (decide (a<((s.n:Nat):Int))) (qW s a 1 λi=>qD f i λd=>eX P del #[Iv d] f λk b=>∃e,k=.returned (.bool e)/\cond (!e) (qW s i8 1 λj=>St j (Iv d) (λm=>(h (i64.wrap (i8+1)) (i64.wrap (a+1)) m)) b) ((h i8 (i64.wrap (a+1)) b))) (((0:Int)<=i8/\i8<=((s.n:Nat):Int))/\∃c:World,Sem.run P (Builtin.clear_ #[22] 0 #[.slice (gb s.p i8.toNat s.c 1) (s.n-i8.toNat) (s.c-i8.toNat)]) f=.ok (.tuple #[]) c/\((0:Int)<=i8/\i8<=((s.c:Nat):Int))/\K (.slice (gb s.p 0 s.c 1) (i8.toNat-0) (s.c-0)) c))
def L4(id:Int)(c b:Addr):=
 Dr (λa=>qb a c λf=>NN f λa3=>qM a a3 0 λg=>∃d:cg,gk P 117 (.map g) (Iv id) false a (Pv d)/\NN d λe=>qL a e 4 λh=>qD a b λi=>K (.bool (h !=i)) a) w
def DY(t:cg)(id:Int)(gX:Value):=
 NN t λb=>qM w b 0 λe=>∃a:cg,gk P 117 (.map e) (Iv id) false w (Pv a)/\cond a.isNone (K (Iv 2) w) (eX P gX #[Pv a] w λc d=>c=.returned (.tuple #[])/\K (Iv 0) d)
def L5(p:cg)(a:Addr):=
 qD w a λd=>NN p λb=>St (b.add 4) (Iv d) (λc=>K (.tuple #[]) c) w
def L6(l:cg)(group:Int)(change:Value):=
 NN l λQ=>qM w Q 0 λR=>∃e:cg,∃B:World,Sem.run P (Instr.range 140 (.map R)) w=.ok (Pv e) B/\qO 0 B λt n9 C=>(∃k:World,Sem.run P (Instr.next (Pv e) false 0) C=.ok (.tuple #[.bool false]) k/\K (Iv n9) k)\/(∃v:Value,∃x:Value,∃m:World,Sem.run P (Instr.next (Pv e) false 0) C=.ok (.tuple #[.bool true,v,x]) m/\∃g:Int,∃i:Int,∃j:Int,∃n:World,Sem.run P (Instr.entry (Pv e)) m=.ok (.tuple #[Iv g,.agg #[Iv i,Iv j]]) n/\qw n λb y=>qU [Iv i,Iv j] b y λo=>zZ o b λD E=>eX P change #[.agg #[Iv D,Iv E]] o λu z=>∃r:Int,∃s:Int,u=.returned (.agg #[Iv r,Iv s])/\qw z λc A=>qU [Iv r,Iv s] c A λa=>qh (λf=>qL a b 0 λG=>cond (G==group) (zZ a b λH I=>zZ a c λJ L=>∃h:Bool,jY P .neq 239 (.agg #[Iv H,Iv I]) (.agg #[Iv J,Iv L]) h/\f h a) (f false a)) λF p=>cond F (Dr (λd=>NN l λa41=>qM d a41 0 λM=>zZ d c λN O=>∃q:World,Sem.run P (Instr.mapUpdate 140 (.map M) (Iv g) (.agg #[Iv N,Iv O])) d=.ok () q/\(t (i64.wrap (n9+1)) q)) p) ((t n9 p)))
def L7(e f:Int)(b:Addr):=
 Al (.cells #[Iv e,Iv f] 239) (λg w2=>qw w2 λc a=>qD a b λj=>qL a g 1 λk=>qU [Iv j,Iv k] c a λd=>zZ d c λh i=>K (.agg #[Iv h,Iv i]) d) w
def L8(chain:Sl)(n:Int):=
 zK w λg w2=>qO 0 w2 λm c b=>cond (decide (c<((chain.n:Nat):Int))) (qW chain c 1 λo=>qD b o λd=>qF yD #[Iv d] b λj a=>cond (!j) (K (.bool false) a) (cx (some g) 64 d 1 λe=>qm a e λk=>cond k (K (.bool false) a) (cx (some g) 64 d 1 λf=>St f (.bool true) (λh=>(m (i64.wrap (c+1)) h)) a))) (qF C8 #[Iv n] b λl i=>K (.bool l) i)
def L9(c:cg)(chain:Sl)(is:Value):=
 qO 0 w λl e a=>cond (decide (e<((chain.n:Nat):Int))) (qW chain e 1 λm=>qD a m λk=>NN c λn=>cx (some (n.add 0)) 64 k 4 λa9=>qA a a9 λg h i j=>eX P is #[.agg #[Iv g,Iv h,Iv i,Iv j]] a λf b=>∃d,f=.returned (.bool d)/\cond d (K (Iv k) b) ((l (i64.wrap (e+1)) b))) (K (Iv (-1)) a)
def Ma(b c d e:Int)(a:Addr):=
 Al (.cells #[Iv b,Iv c,Iv d,Iv e] 107) (λf w2=>qL w2 f 0 λg=>qD w2 a λh=>K (.bool (decide (g<h))) w2) w
def Mb(n:Int):=
 cond (decide ((0:Int)<=n)) (K (.bool (decide (n<=1099511627776))) w) (K (.bool false) w)
def Mc(t:cg)(is:Value):=
 NN t λs=>qK w s 0 λu=>qf ⟨none,0,0⟩ 0 w λh g a b=>cond (decide (a<((u.n:Nat):Int))) (qh (λi=>NN t λj=>qK b j 0 λq=>qW q a 2 λk=>qy b k 1 λr=>cond r (eX P is #[Iv a] b λl n=>∃e,l=.returned (.bool e)/\i e n) (i false b)) λp c=>cond p (qC #[Iv a] c λm o=>∃f:Sl,∃d:World,Sem.run P (Builtin.append_ #[22,22] 22 #[Sv g,.slice (some m) 1 1]) o=.ok (Sv f) d/\(h f (i64.wrap (a+1)) d)) ((h g (i64.wrap (a+1)) c))) (K (Sv g) b)
def Md(x:Int)(c a:Addr):=
 Dr (λb=>qb b c λh=>qD b a λf=>qJ pV #[Pv h,Iv x] b λi d=>zG d a (Iv f) λj=>qF pW #[Sv i,Iv f] d λe g=>K (.bool e) g) w
def y5(s:Sl)(v:Int):=
 qQ vG #[Sv s,Iv v] w λb a=>K (.bool (decide (b≥0))) a
def Me(d e:Int):=
 Al (.cells #[Iv d,Iv e] 239) (λf w2=>qw w2 λa b=>zZ b f λi j=>qU [Iv i,Iv (min1 (i64.wrap (j+1)) 3)] a b λc=>zZ c a λg h=>K (.agg #[Iv g,Iv h]) c) w
def Mf(l:Sl)(target:Int):=
 qg (λar=>qF Dv #[Sv l] w λau o=>cond (!au) (K (.slice none 0 0) o) (cond (decide (target<0)) (K (.slice none 0 0) o) (cond (decide (target≥((l.n:Nat):Int))) (K (.slice none 0 0) o) (ar o)))) λw2=>∃p:Sl,∃N:World,Sem.run P (Instr.makeSlice 22 (Iv ((l.n:Nat):Int)) (Iv ((l.n:Nat):Int))) w2=.ok (Sv p) N/\((0:Int)<=1/\1<=((l.n:Nat):Int))/\qO 0 N λaq m i=>cond (decide (m<(((l.n-(1:Int).toNat):Nat):Int))) (cx (gb l.p ((1:Int).toNat) l.c 3) (l.n-(1:Int).toNat) m 3 λA=>ql i A λR S T=>qi i λf H=>qU [Iv R,Iv S,Iv T] f H λI=>Dr (λg=>qL g f 0 λn=>qW p n 1 λa23=>qD g a23 λx=>ql g f λU V W=>qQ Dw #[.agg #[Iv U,Iv V,Iv W]] g λX j=>zG j a23 (Iv x) λav=>zH j f 0 (Iv n) λaw=>qW p n 1 λa33=>St a33 (Iv (i64.wrap (x+X))) (λJ=>(aq (i64.wrap (m+1)) J)) j) I) (∃c:Sl,∃r:World,Sem.run P (Instr.makeSlice 22 (Iv ((l.n:Nat):Int)) (Iv ((l.n:Nat):Int))) i=.ok (Sv c) r/\qO 0 r λe a k=>cond (decide (a<((l.n:Nat):Int))) (qW l a 3 λB=>ql k B λY Z aa=>qi k λd L=>qU [Iv Y,Iv Z,Iv aa] d L λs=>qg (λz=>cond (a==target) ((e (i64.wrap (a+1)) s)) (qF yS #[Sv l,Iv a,Iv target] s λab u=>cond (!ab) ((e (i64.wrap (a+1)) u)) (z u))) λt=>ql t d λad ae af=>qQ Dw #[.agg #[Iv ad,Iv ae,Iv af]] t λag M=>qW c a 1 λC=>St C (Iv ag) (λb=>qL b d 0 λah=>qW p ah 1 λa64=>qD b a64 λy=>qh (λq=>qL b d 0 λaj=>cond (aj !=target) (qL b d 0 λak=>qW c ak 1 λD=>qD b D λal=>q (decide (y>al)) b) (q false b)) λai v=>cond ai (Dr (λh=>qW c a 1 λE=>qD h E λam=>qL h d 0 λan=>qW c an 1 λF=>qD h F λao=>qQ JX #[Iv am,Iv ao,Iv y] h λap O=>qW c a 1 λG=>St G (Iv ap) (λQ=>(e (i64.wrap (a+1)) Q)) O) v) ((e (i64.wrap (a+1)) v))) M) (K (Sv c) k))
def DZ(l dU:Sl)(target g:Int):=
 Al (.cells #[Sv l] 245) (λi w2=>Al (.cells #[Sv dU] 22) (λy H=>Al (.cells #[.bool false] 4) (λa x=>qc x i λF=>qc x y λG=>qF JY #[Sv F,Sv G,Iv target] x λc e=>cond (!c) (St a (.bool false) (λp=>qm p a λz=>K (.bool z) p) e) (cond (decide (g<0)) (St a (.bool false) (λq=>qm q a λA=>K (.bool A) q) e) (qc e i λb=>cond (decide (g≥((b.n:Nat):Int))) (St a (.bool false) (λr=>qm r a λB=>K (.bool B) r) e) (qc e i λt=>qF yS #[Sv t,Iv g,Iv target] e λd j=>cond (!d) (St a (.bool false) (λs=>qm s a λC=>K (.bool C) s) j) (qc j i λu=>qN Dx #[Sv u,Iv g,Iv target] j λv D=>ib P 47 v #[36] (jO Go.Proofs.Tryz.f186.body) (jP Go.Proofs.Tryz.f186.body) .ret ((((((((((((((((((((((((((((((((((iQ [Sv l,Sv dU,Iv target,Iv g] 0 .nil).put (some 4) (Pv (some i))).put (some 5) (Pv (some y))).put (some 8) (Pv (some a))).put (some 10) (Sv F)).put (some 11) (Sv G)).put (some 12) (Iv target)).put (some 13) (.bool c)).put (some 14) (.bool (!c))).put (some 15) (.bool (!c))).put (some 15) (.bool false)).put (some 16) (Iv g)).put (some 17) (.bool (decide (g<0)))).put (some 18) (.bool (decide (g<0)))).put (some 19) (.bool (decide (g<0)))).put (some 19) (.bool false)).put (some 20) (Iv g)).put (some 21) (Sv b)).put (some 22) (Iv ((b.n:Nat):Int))).put (some 23) (.bool (decide (g≥((b.n:Nat):Int))))).put (some 24) (.bool (decide (g≥((b.n:Nat):Int))))).put (some 25) (.bool (decide (g≥((b.n:Nat):Int))))).put (some 25) (.bool false)).put (some 26) (Sv t)).put (some 27) (Iv g)).put (some 28) (Iv target)).put (some 29) (.bool d)).put (some 30) (.bool (!d))).put (some 31) (.bool (!d))).put (some 32) (Sv u)).put (some 33) (Iv g)).put (some 34) (Iv target)).put (some 35) v)) D (λf E=>St a (.bool false) (λm=>m.heap[f]?=some (.deferred (some []))/\∃n:Bool,(m.putObj f (.deferred none)).cell? a=some (.bool n)/\K (.bool n) (m.putObj f (.deferred none))) E) (λh k=>k.heap[h]?=some (.deferred (some []))/\∃o:Bool,(k.putObj h (.deferred none)).cell? a=some (.bool o)/\K (.bool o) (k.putObj h (.deferred none)))))))) H) w2) w
def Mg(n:Int)(weights:Sl):=
 cond (decide ((0:Int)<=n)) (cond (decide (n<=1048576)) (cond (decide (((weights.n:Nat):Int)<=64)) (qF V8 #[Sv weights,(.func (.func Dy) #[] #[])] w λb a=>K (.bool (!b)) a) (K (.bool false) w)) (K (.bool false) w)) (K (.bool false) w)
def Mh(l:Sl):=
 qI 0 0 w λc n5 b a=>cond (decide (b<((l.n:Nat):Int))) (qW l b 1 λd=>qD a d λe=>(c (i64.wrap (n5+e)) (i64.wrap (b+1)) a)) (K (Iv n5) a)
def Mi(n:Int)(weights:Sl):=
 qF Dc #[Iv n,Sv weights] w λQ t=>cond (!Q) (K (.slice none 0 0) t) (∃d:Sl,∃z:World,Sem.run P (Instr.makeSlice 22 (Iv ((weights.n:Nat):Int)) (Iv ((weights.n:Nat):Int))) t=.ok (Sv d) z/\qQ vD #[Sv weights] z λN C=>cond (N==0) (K (Sv d) C) (zT ⟨none,0,0⟩ n 0 C λO a b c e=>cond (decide (c<((weights.n:Nat):Int))) (qW weights c 1 λp=>qD e p λD=>zN yT #[.int .u64 (u64.wrap n),.int .u64 (u64.wrap D)] e λE F u=>zN vH #[.int .u64 E,.int .u64 F,.int .u64 (u64.wrap N)] u λG H v=>qW d c 1 λa26=>St a26 (Iv (i64.wrap G)) (λj=>qW d c 1 λa28=>qD j a28 λI=>Al (.cells #[Iv c,.int .u64 H] 302) (λs x=>∃l:Sl,∃k:World,Sem.run P (Builtin.append_ #[297,297] 297 #[Sv a,.slice (some s) 1 1]) x=.ok (Sv l) k/\(O l (i64.wrap (b-I)) (i64.wrap (c+1)) k)) j) v) (qE JZ #[Sv a,(.func (.func Dz) #[] #[])] e λy=>((0:Int)<=b/\b<=((a.c:Nat):Int))/\qO 0 y λo h f=>cond (decide (h<(((b.toNat-0):Nat):Int))) (cx (gb a.p 0 a.c 2) (b.toNat-0) h 2 λa41=>zM f a41 λJ L=>Al (.cells #[Iv 0,.int .u64 0] 302) (λi A=>qU [Iv J,.int .u64 L] i A λg=>qL g i 0 λm=>qW d m 1 λq=>qD g q λM=>qW d m 1 λr=>St r (Iv (i64.wrap (M+1))) (λB=>(o (i64.wrap (h+1)) B)) g) f) (K (Sv d) f))))
def Mj(l:cg)(a:Sl):=
 Al (.cells #[Pv l] 78) (λc w2=>Al (.cells #[Sv a] 22) (λk d=>qb d c λn=>NN n λj=>qM d j 0 λo=>qN DA #[.map o] d λh m=>qJ yA #[h] m λi e=>qJ C2 #[Sv i,(.func (.func J1) #[] #[Pv (some k),Pv (some c)])] e λb f=>qE J2 #[Sv b,(.func (.func J3) #[] #[Pv (some c)])] f λg=>K (Sv b) g) w2) w
def Mk(held:Value)(k a:Addr):=
 qc w k λo=>qO 0 w λi d c=>cond (decide (d<((o.n:Nat):Int))) (qW o d 1 λE=>qD c E λD=>qb c a λF=>NN F λj=>qZ c j 10 λp=>qX pU #[Pv p,Iv D] c λq r s t u v x y z G m=>qV m λe n=>qU [Iv q,Iv r,Iv s,Iv t,Iv u,Iv v,Iv x,.bool y,.bool z] e n λf=>qL f e 4 λA=>eX P held #[Iv A] f λl b=>∃h,l=.returned (.bool h)/\cond (!h) (qb b a λB=>qF JN #[Pv B,Iv D] b λC g=>cond C (K (.bool true) g) ((i (i64.wrap (d+1)) g))) ((i (i64.wrap (d+1)) b))) (K (.bool false) c)
def Ml(c:cg)(id:Int):=
 NN c λal=>qZ w al 10 λan=>qX pU #[Pv an,Iv id] w λao ap aq ar au z A B C av am=>qV am λa t=>qU [Iv ao,Iv ap,Iv aq,Iv ar,Iv au,Iv z,Iv A,.bool B,.bool C] a t λu=>Dr (λe=>NN c λp=>qZ e p 0 λD=>qL e a 4 λE=>qJ pV #[Pv D,Iv E] e λn b=>qg (λg=>qL b (a.add 0) 0 λF=>cond (decide (F≥0)) (qY b a λG H I J L M N O Q=>qE CT #[Pv c,Iv id,.agg #[Iv G,Iv H,Iv I,Iv J,Iv L,Iv M,Iv N,.bool O,.bool Q]] b λi=>NN c λa40=>qZ i a40 10 λR=>qQ adc #[Pv R,Iv id,Iv 0,Iv 0] i λaw x=>g x) (qY b a λS T U V W X Y Z aa=>qF J5 #[Pv c,Iv id,.agg #[Iv S,Iv T,Iv U,Iv V,Iv W,Iv X,Iv Y,.bool Z,.bool aa],Sv n] b λab j=>cond (!ab) (K (.bool false) j) (g j))) λv=>Dr (λf=>NN c λq=>qP f (q.add 1) λad ae af=>qL f a 3 λag=>qE rR #[.agg #[Pv ad,Pv ae,Pv af],Iv ag,Sv n] f λk=>NN c λr=>qZ k r 8 λah=>qQ CU #[Pv ah,Iv id] k λax y=>Dr (λd=>NN c λh=>qM d h 11 λo=>NN c λs=>qZ d s 9 λai=>qL d a 4 λaj=>zU J6 #[Pv ai,Iv aj] d λak l=>zS l h 11 (.map o) λay=>∃m:World,Sem.run P (Instr.mapUpdate 81 (.map o) (Iv id) (.int .u64 ak)) l=.ok () m/\K (.bool true) m) y) v) u
def Xu(g:Int)(b a:Addr):=
 qc w b λd=>qW d g 1 λc=>qm w c λe=>cond e (K (.bool true) w) (qc w a λf=>qW f g 1 λa5=>qm w a5 λh=>K (.bool h) w)
def Xv(g:Int)(a:Addr):=
 qc w a λc=>qW c g 1 λb=>qm w b λd=>K (.bool d) w
def Mm(s:Sl)(f:Value):=
 qO 0 w λj a d=>cond (decide (a<((s.n:Nat):Int))) (qW s a 6 λk=>zR d k λl m n g h i=>eX P f #[.agg #[Iv l,Iv m,Iv n,Iv g,Iv h,.bool i]] d λe b=>∃c,e=.returned (.bool c)/\cond c (K (Iv a) b) ((j (i64.wrap (a+1)) b))) (K (Iv (-1)) d)
def Mn(c:cg)(id g:Int):=
 NN c λax=>qZ w ax 10 λaz=>qX pU #[Pv az,Iv id] w λaA aB aC aD aE L M N O Q ay=>qV ay λb D=>qU [Iv aA,Iv aB,Iv aC,Iv aD,Iv aE,Iv L,Iv M,.bool N,.bool O] b D λh=>qL h b 4 λR=>q9 (λq=>qh (λf=>cond (Q !=0) (f true h) (NN c λa27=>qZ h a27 0 λT=>qF jR #[Pv T,Iv g] h λU e=>cond (!U) (f true e) (qL e b 2 λV=>cond (V==0) (qL e (b.add 0) 0 λW=>f (decide (W<0)) e) (f false e)))) λS d=>cond S (K (.tuple #[Iv (-1),Iv 2]) d) (qL d b 2 λX=>cond (X==1) (NN c λa35=>qZ d a35 8 λY=>qQ yK #[Pv Y,Iv id] d λaF F=>K (.tuple #[Iv (-1),Iv 0]) F) (qL d b 2 λZ=>cond (Z==0) (q g d) (q R d)))) λa E=>zX DB #[Pv c,Iv a] E λaa ab u l=>cond (u !=0) (K (.tuple #[Iv ab,Iv u]) l) (qY l b λad ae af ag ah ai aj ak al=>zJ vF #[Pv c,.agg #[Iv ad,Iv ae,Iv af,Iv ag,Iv ah,Iv ai,Iv aj,.bool ak,.bool al]] l λam m=>qg (λr=>qL m b 2 λan=>cond (an==2) (Dr (λi=>NN c λa63=>qP i (a63.add 4) λv x y=>qL i b 3 λz=>NN c λC=>qZ i C 0 λao=>qJ pV #[Pv ao,Iv a] i λap n=>zH n b 3 (Iv z) λaG=>qP n (a63.add 4) λaq ar au=>((.agg #[Pv aq,Pv ar,Pv au]):Value)=(.agg #[Pv v,Pv x,Pv y])/\qE rR #[.agg #[Pv v,Pv x,Pv y],Iv z,Sv ap] n λH=>r H) m) (r m)) λG=>Dr (λj=>NN c λs=>qZ j s 9 λA=>NN c λt=>qM j t 11 λo=>∃p:Int,gk P 81 (.map o) (Iv id) false j (.int .u64 p)/\qQ om #[Pv c,Iv a] j λav k=>∃B:Int,gk P 81 (.map o) (Iv id) false k (.int .u64 B)/\((.int .u64 B):Value)=(.int .u64 p)/\zS k t 11 (.map o) λaH=>qG k s 9 (Pv A) λaI=>qF J8 #[Pv A,.int .u64 p,Iv a,Iv av] k λaw I=>qE DC #[Pv c,Iv id,Iv aa,Iv a,.string am,.bool (!aw)] I λJ=>K (.tuple #[Iv (-1),Iv 0]) J) G)
def Mo(s:cg)(e f:Int):=
 Al (.cells #[Iv e,Iv f] 54) (λd w2=>zZ w2 d λo p=>qF yU #[Pv s,.agg #[Iv o,Iv p]] w2 λq h=>cond (!q) (K (.tuple #[.string (ByteArray.mk #[]),Iv 2]) h) (Dr (λa=>NN s λa9=>qM a a9 1 λi=>zZ a d λj k=>∃b:ByteArray,∃c:Bool,gk P 137 (.map i) (.agg #[Iv j,Iv k]) true a (.tuple #[.string b,.bool c])/\cond c (K (.tuple #[.string b,Iv 0]) a) (zZ a d λl m=>zJ DD #[.agg #[Iv l,Iv m]] a λn g=>K (.tuple #[.string n,Iv 0]) g)) h)) w
def Mq(t:cg)(b c:Int):=
 Al (.cells #[Iv b,Iv c] 54) (λf w2=>Dr (λa=>NN t λa4=>qM a a4 1 λg=>zZ a f λh i=>∃d:Int,∃e:Bool,gk P 119 (.map g) (.agg #[Iv h,Iv i]) true a (.tuple #[Iv d,.bool e])/\cond e (K (Iv d) a) (K (Iv (-1)) a)) w2) w
def Mr(t:cg)(g h owner:Int):=
 Al (.cells #[Iv g,Iv h] 54) (λa w2=>NN t λa3=>qL w2 a3 3 λb=>qL w2 a 0 λL=>cond (decide (L<0)) (qU [Iv (-1),Iv b] a w2 λx=>NN t λJ=>qL x J 3 λM=>NN t λa9=>St (a9.add 3) (Iv (i64.wrap (M+1))) (λu=>Dr (λc=>NN t λi=>qM c i 0 λo=>zZ c a λy z=>Al (.cells #[Iv y,Iv z,Iv 0,Iv 0,Iv owner,Iv 0,Iv 0,.bool false,.bool false] 57) (λr j=>zS j i 0 (.map o) λN=>∃k:World,Sem.run P (Instr.mapUpdate 117 (.map o) (Iv b) (Pv (some r))) j=.ok () k/\K (.tuple #[Iv b,Iv 0]) k) c) u) x) (zZ w2 a λA B=>qQ Dj #[Pv t,.agg #[Iv A,Iv B]] w2 λC l=>cond (decide (C≥0)) (K (.tuple #[Iv (-1),Iv 4]) l) (Dr (λd=>NN t λa26=>qM d a26 1 λD=>zZ d a λE F=>∃e:World,Sem.run P (Instr.mapUpdate 119 (.map D) (.agg #[Iv E,Iv F]) (Iv b)) d=.ok () e/\NN t λq=>qL e q 3 λG=>NN t λa33=>St (a33.add 3) (Iv (i64.wrap (G+1))) (λv=>Dr (λf=>NN t λa36=>qM f a36 0 λp=>zZ f a λH I=>Al (.cells #[Iv H,Iv I,Iv 0,Iv 0,Iv owner,Iv 0,Iv 0,.bool false,.bool false] 57) (λs m=>zS m a36 0 (.map p) λO=>∃n:World,Sem.run P (Instr.mapUpdate 117 (.map p) (Iv b) (Pv (some s))) m=.ok () n/\K (.tuple #[Iv b,Iv 0]) n) f) v) e) l))) w
def Ms(s:cg)(i:Int):=
 cond (decide (i<0)) (K (Pv none) w) (NN s λa=>qK w a 0 λb=>cond (decide (i≥((b.n:Nat):Int))) (K (Pv none) w) (NN s λa3=>qK w a3 0 λc=>qW c i 16 λa5=>K (Pv (some a5)) w))
def Mt(c:cg)(g:Int)(text:ByteArray):=
 zX DB #[Pv c,Iv g] w λi j e b=>cond (e !=0) (K (.tuple #[Iv (-1),Iv j,Iv e]) b) (NN c λf=>qZ b f 10 λk=>qj Dk #[Pv k,.agg #[Iv (-1),Iv 0],Iv g] b λa l h=>qE DC #[Pv c,Iv a,Iv i,Iv g,.string text,.bool false] h λd=>K (.tuple #[Iv a,Iv (-1),Iv 0]) d)
def Mu(c:cg)(h i j k l m n:Int)(o p:Bool):=
 Al (.cells #[Iv h,Iv i,Iv j,Iv k,Iv l,Iv m,Iv n,.bool o,.bool p] 57) (λd w2=>qL w2 d 2 λB=>cond (B==1) (Dr (λe=>NN c λa5=>qZ e (a5.add 1) 1 λD=>qL e d 3 λE=>zQ DE #[Pv D,Iv E] e λs F C=>K (.string s) C) w2) (cond (B==2) (Dr (λa=>NN c λf=>qZ a (f.add 4) 1 λt=>qL a d 3 λu=>zQ DE #[Pv t,Iv u] a λv G q=>K (.string v) q) w2) (Dr (λb=>NN c λg=>qZ b g 7 λx=>zZ b (d.add 0) λy z=>zQ yR #[Pv x,.agg #[Iv y,Iv z]] b λA H r=>K (.string A) r) w2))) w
def Mv(p:cg)(a:Addr):=
 qm w a λd=>NN p λb=>St (b.add 8) (.bool d) (λc=>K (.tuple #[]) c) w
def Mw(s:cg)(f g:Int)(text:ByteArray):=
 Al (.cells #[Iv f,Iv g] 54) (λh w2=>zZ w2 h λn o=>qF yU #[Pv s,.agg #[Iv n,Iv o]] w2 λp b=>cond (!p) (K (Iv 2) b) (cond (((text.size:Nat):Int) !=16) (K (Iv 1) b) (Dr (λc=>NN s λa9=>qM c a9 1 λj=>zZ c h λk l=>∃a:World,Sem.run P (Instr.mapUpdate 137 (.map j) (.agg #[Iv k,Iv l]) (.string text)) c=.ok () a/\NN s λd=>qL a d 2 λm=>NN s λe=>St (e.add 2) (Iv (i64.wrap (m+1))) (λi=>K (Iv 0) i) a) b))) w
def Mx(s:cg)(i:Int):=
 qR tI #[Pv s,Iv i] w λb a=>cond b.isNone (K (Iv 1) a) (NN b λa4=>u5 16 .u8 (.agg #[.int .u8 0,.int .u8 0,.int .u8 0,.int .u8 0,.int .u8 0,.int .u8 0,.int .u8 0,.int .u8 0,.int .u8 0,.int .u8 0,.int .u8 0,.int .u8 0,.int .u8 0,.int .u8 0,.int .u8 0,.int .u8 0]) a4 a (λc=>K (Iv 0) c))
def My(p:cg)(i:Int):=
 qh (λb=>cond (decide (i<0)) (b true w) (NN p λa5=>qZ w a5 0 λh=>qQ Cw #[Pv h] w λj f=>b (decide (i≥j)) f)) λg w2=>cond g (K (Iv 1) w2) (NN p λc=>qZ w2 c 0 λd=>qF DF #[Pv d,Iv i,.bool false] w2 λe a=>cond (!e) (K (Iv 2) a) (K (Iv 0) a))
variable{K w}
def Xw(a x)(h:L1 K w a x):=bL (z8 [20,24,25,26,30,32,39,40,45,46,47] [] [(6,[(1,.int .u64),(8,.slice),(31,jZ)])] [(4,[])]) #[Sv a,.int .u64 x] K w Tryz.func166 h
def tM:dS:={quiet:=λd=>[11].contains d}
def D0:Nat->Bool:=λd=>[].contains d
def Xx(t:cg)(g:Int)(K:bh7)(w:World):mV P fD gG cz tM D0 Go.Proofs.Tryz.f169 #[(.pointer t),(.int .i64 g)] K w=DX K w t g:=by kernel_rfl
def Xy:mW P tM Go.Proofs.Tryz.f169 2=true:=by kernel_rfl
def Xz(t:cg)(g:Int){K:bh7}{w:World}(h:DX K w t g):Calls P C0 #[(Pv t),(Iv g)] w (bW K):=oh mixed Go.Proofs.Tryz.func169 Xy (by rw[Xx];exact h)
def Mz(c:Addr)(b:Nat)(w:World)(R:Ending->bh6):Prop:=
 kU b (λa=>qD a c λe=>St c (Iv (i64.wrap (e+1))) (λd=>e0 b none R d) a) w
def XA(t:cg)(g:Int)(b:Addr)(d:Value)(c:Int)(a:Nat)(w:World)(R:Ending->bh6):ma P fD gG cz tM D0 13 a (jO Go.Proofs.Tryz.f169.body) (jP Go.Proofs.Tryz.f169.body) (kW [(9,.int .i64 c)] ((((((iQ [(.pointer t),(.int .i64 g)] 0 .nil).put (some 4) (.int .i64 0)).put (some 5) (.pointer (some b))).put (some 6) (.pointer t)).put (some 7) (.int .i64 g)).put (some 8) d)) w R=Mz b a w R:=by kernel_rfl
def XB:gF P 13 tM (jO Go.Proofs.Tryz.f169.body)=true/\gF P 13 tM (jP Go.Proofs.Tryz.f169.body)=true:=⟨by kernel_rfl,by kernel_rfl⟩
def XC(t g)(h:L2 K w t g):=bL {} #[Pv t,Iv g] K w Tryz.func170 h
def XD(s del)(h:L3 K w s del):=bL {(z8 [12,15,18,19,21,35] [] [(5,[(5,jZ),(6,jZ)])]:dS)with dyn:=λd=>[28].contains d} #[Sv s,del] K w Tryz.func171 h
def XE(id b a)(h:L4 K w id b a):=bL {(z8 [15]:dS)with head:=λr=>(bif r==1 then 12 else 0)} #[Iv id,Pv (some b),Pv (some a)] K w Tryz.func172 h
def MA(t id gX)(h:DY K w t id gX):=bL {(z8 [15]:dS)with dyn:=λd=>[18].contains d} #[Pv t,Iv id,gX] K w Tryz.func173 h
def XF(p a)(h:L5 K w p a):=bL {} #[Pv p,Pv (some a)] K w Tryz.func174 h
def XG(l group change)(h:L6 K w l group change):=bL {(z8 [27,31,40] [(7,[jQ 7],[6])] [(3,[(7,jZ)])] [(7,[(32,.bool)])]:dS)with dyn:=λd=>[23].contains d,BA:=λd=>(bif d==18 then[.one (.int .i64),.agg [.int .i64,.int .i64]]else[.one .raw,.one .raw])} #[Pv l,Iv group,change] K w Tryz.func175 h
def XH(b c a)(h:L7 K w b c a):=bL {} #[.agg #[Iv b,Iv c],Pv (some a)] K w Tryz.func176 h
def XI(chain n)(h:L8 K w chain n):=bL (z8 [9,11,24] [] [(3,[(10,jZ)])]) #[Sv chain,Iv n] K w Tryz.func177 h
def XJ(c chain is)(h:L9 K w c chain is):=bL {(z8 [10,12,24] [] [(2,[(11,jZ)])]:dS)with dyn:=λd=>[22].contains d} #[Pv c,Sv chain,is] K w Tryz.func178 h
def XK(b c d e a)(h:Ma K w b c d e a):=bL (z8 [7]) #[.agg #[Iv b,Iv c,Iv d,Iv e],Pv (some a)] K w Tryz.func179 h
def XL(n)(h:Mb K w n):=bL (z8 [4,7]) #[Iv n] K w Tryz.func180 h
def XM(t is)(h:Mc K w t is):=bL {(z8 [11,13,32] [] [(3,[(5,.slice),(12,jZ)])] [(6,[(27,.bool)])]:dS)with dyn:=λd=>[26].contains d} #[Pv t,is] K w Tryz.func181 h
def XN(x b a)(h:Md K w x b a):=bL (z8 [] [(1,[[0,1,3,2,4,5]],[2,4])]) #[Iv x,Pv (some b),Pv (some a)] K w Tryz.func182 h
def D1(s v)(h:y5 K w s v):=bL (z8 [8]) #[Sv s,Iv v] K w Tryz.func183 h
def XO(a b)(h:Me K w a b):=bL (z8 [7,8]) #[.agg #[Iv a,Iv b]] K w Tryz.func184 h
def XP(l target)(h:Mf K w l target):=bL (z8 [17,22,23,26,30,32,42,44,46,49,51,57,78,86,102] [(7,[jQ 10],[6,9]),(17,[jQ 15],[12,14])] [(5,[(31,jZ)]),(11,[(50,jZ)])] [(3,[]),(14,[]),(17,[(87,.bool)])]) #[Sv l,Iv target] K w Tryz.func185 h
def tO:dS:={quiet:=λd=>[17,22,23,46].contains d,head:=λr=>(bif r==5 then 10 else 0)}
def D2:Nat->Bool:=λd=>[].contains d
def XQ(l dU:Sl)(target g:Int)(K:bh7)(w:World):mV P fD gG cz tO D2 Go.Proofs.Tryz.f186 #[(.slice l.p l.n l.c),(.slice dU.p dU.n dU.c),(.int .i64 target),(.int .i64 g)] K w=DZ K w l dU target g:=by kernel_rfl
def XR:mW P tO Go.Proofs.Tryz.f186 4=true:=by kernel_rfl
def XS(l dU:Sl)(target g:Int){K:bh7}{w:World}(h:DZ K w l dU target g):Calls P Db #[(Sv l),(Sv dU),(Iv target),(Iv g)] w (bW K):=oh mixed Go.Proofs.Tryz.func186 XR (by rw[XQ];exact h)
def MB(k l m:Addr)(b:Int)(c:Nat)(w:World)(R:Ending->bh6):Prop:=
 kU c (λe=>Dr (λa=>qc a k λg=>qW g b 3 λd=>qL a d 1 λh=>qc a l λi=>qW i b 1 λa41=>qD a a41 λj=>cond (decide (h<=j)) (St m (.bool true) (λf=>e0 c (some .ret) R f) a) (e0 c none R a)) e) w
def XT(l dU:Sl)(target g:Int)(k m n:Addr)(h i:Sl)(b:Bool)(a c:Sl)(d:Bool)(e:Sl)(o:Value)(f:Int)(j:Nat)(w:World)(R:Ending->bh6):ma P fD gG cz tO D2 47 j (jO Go.Proofs.Tryz.f186.body) (jP Go.Proofs.Tryz.f186.body) (kW [(36,.int .i64 f)] (((((((((((((((((((((((((((((((((iQ [(.slice l.p l.n l.c),(.slice dU.p dU.n dU.c),(.int .i64 target),(.int .i64 g)] 0 .nil).put (some 4) (.pointer (some k))).put (some 5) (.pointer (some m))).put (some 8) (.pointer (some n))).put (some 10) (.slice h.p h.n h.c)).put (some 11) (.slice i.p i.n i.c)).put (some 12) (.int .i64 target)).put (some 13) (.bool b)).put (some 14) (.bool (!b))).put (some 15) (.bool (!b))).put (some 15) (.bool false)).put (some 16) (.int .i64 g)).put (some 17) (.bool (decide (g<0)))).put (some 18) (.bool (decide (g<0)))).put (some 19) (.bool (decide (g<0)))).put (some 19) (.bool false)).put (some 20) (.int .i64 g)).put (some 21) (.slice a.p a.n a.c)).put (some 22) (.int .i64 ((a.n:Nat):Int))).put (some 23) (.bool (decide (g≥((a.n:Nat):Int))))).put (some 24) (.bool (decide (g≥((a.n:Nat):Int))))).put (some 25) (.bool (decide (g≥((a.n:Nat):Int))))).put (some 25) (.bool false)).put (some 26) (.slice c.p c.n c.c)).put (some 27) (.int .i64 g)).put (some 28) (.int .i64 target)).put (some 29) (.bool d)).put (some 30) (.bool (!d))).put (some 31) (.bool (!d))).put (some 32) (.slice e.p e.n e.c)).put (some 33) (.int .i64 g)).put (some 34) (.int .i64 target)).put (some 35) o)) w R=MB k m n f j w R:=by kernel_rfl
def XU:gF P 47 tO (jO Go.Proofs.Tryz.f186.body)=true/\gF P 47 tO (jP Go.Proofs.Tryz.f186.body)=true:=⟨by kernel_rfl,by kernel_rfl⟩
def XV(n weights)(h:Mg K w n weights):=bL (z8 [7,10,14,15]) #[Iv n,Sv weights] K w Tryz.func187 h
def XW(l)(h:Mh K w l):=bL (z8 [7,9,14,15] [] [(3,[(3,jZ),(8,jZ)])]) #[Sv l] K w Tryz.func189 h
def XX(n weights)(h:Mi K w n weights):=bL (z8 [22,27,31,33,39,41,49,56,63,70,76,78,86,88] [] [(10,[(7,.slice),(8,jZ),(32,jZ)]),(20,[(77,jZ)])]) #[Iv n,Sv weights] K w Tryz.func190 h
def XY(l a)(h:Mj K w l a):=bL {} #[Pv l,Sv a] K w Tryz.func191 h
def XZ(held b a)(h:Mk K w held b a):=bL {(z8 [10,12,34] [] [(2,[(11,jZ)])]:dS)with dyn:=λd=>[27].contains d} #[held,Pv (some b),Pv (some a)] K w Tryz.func192 h
def X0(c id)(h:Ml K w c id):=bL (z8 [27] [(2,[jQ 8],[6]),(8,[jQ 8],[7]),(10,[jQ 13],[11,12])] [] [(8,[])]) #[Pv c,Iv id] K w Tryz.func193 h
def X1(g b a)(h:Xu K w g b a):=bL {} #[Iv g,Pv (some b),Pv (some a)] K w Tryz.func194 h
def X2(g a)(h:Xv K w g a):=bL {} #[Iv g,Pv (some a)] K w Tryz.func195 h
def X3(s f)(h:Mm K w s f):=bL {(z8 [7,9,18] [] [(2,[(8,jZ)])]:dS)with dyn:=λd=>[16].contains d} #[Sv s,f] K w Tryz.func198 h
def X4(c id g)(h:Mn K w c id g):=bL (z8 [28,41,46,52,62,72,80] [(15,[jQ 13],[11,12]),(16,[jQ 16],[13,14])] [] [(4,[(26,.bool)]),(10,[(10,jZ)]),(16,[])]) #[Pv c,Iv id,Iv g] K w Tryz.func205 h
def X5(s a b)(h:Mo K w s a b):=bL {(z8:dS)with head:=λr=>(bif r==3 then 11 else 0)} #[Pv s,.agg #[Iv a,Iv b]] K w Tryz.func207 h
def X6(t a b)(h:Mq K w t a b):=bL {(z8:dS)with head:=λr=>(bif r==1 then 11 else 0)} #[Pv t,.agg #[Iv a,Iv b]] K w Tryz.func208 h
def X7(t a b owner)(h:Mr K w t a b owner):=bL (z8 [22,29,34] [(2,[jQ 7],[6]),(8,[jQ 10],[8,9])]) #[Pv t,.agg #[Iv a,Iv b],Iv owner] K w Tryz.func209 h
def X8(s i)(h:Ms K w s i):=bL (z8 [6,13,14]) #[Pv s,Iv i] K w Tryz.func211 h
def X9(c g text)(h:Mt K w c g text):=bL (z8 [22]) #[Pv c,Iv g,.string text] K w Tryz.func213 h
def Ya(c a b d e f g i j k)(h:Mu K w c a b d e f g i j k):=bL (z8 [19,32] [(3,[jQ 11],[6]),(5,[jQ 12],[7]),(7,[jQ 12],[7])]) #[Pv c,.agg #[Iv a,Iv b,Iv d,Iv e,Iv f,Iv g,Iv i,.bool j,.bool k]] K w Tryz.func214 h
def Yb(p a)(h:Mv K w p a):=bL {} #[Pv p,Pv (some a)] K w Tryz.func215 h
def Yc(s a b text)(h:Mw K w s a b text):=bL (z8 [14,15,26] [(5,[jQ 7],[6])]) #[Pv s,.agg #[Iv a,Iv b],.string text] K w Tryz.func216 h
def Yd(s i)(h:Mx K w s i):=bL (z8 [10]) #[Pv s,Iv i] K w Tryz.func217 h
def Ye(p i)(h:My K w p i):=bL (z8 [7,15] [] [] [(2,[(5,.bool)])]) #[Pv p,Iv i] K w Tryz.func218 h
end Go.Mp
namespace Go.Mp
open Go Go.Vc Go.Proofs
variable{K:bh7}{w:World}
variable(K w)
def MC(t:cg)(place a:Int):=
 NN t λd=>qM w d 2 λe=>∃b:Int,∃c:Bool,gk P 120 (.map e) (.agg #[Iv place,Iv a]) true w (.tuple #[Iv b,.bool c])/\cond c (K (Iv b) w) (K (Iv (-1)) w)
def MD(a:Sl):=
 qI 0 0 w λe n5 d b=>cond (decide (d<((a.n:Nat):Int))) (qW a d 1 λf=>qD b f λc=>cond (decide (c<0)) (K (.tuple #[Iv 0,.bool false]) b) (cond (decide (c>62)) (K (.tuple #[Iv 0,.bool false]) b) (cond (decide ((i64.wrap (n5+c))>64)) (K (.tuple #[Iv 0,.bool false]) b) ((e (i64.wrap (n5+c)) (i64.wrap (d+1)) b))))) (K (.tuple #[Iv n5,.bool true]) b)
def ME(n:Int):=
 0<=(u64.wrap n)/\K (.int .u64 (u64.wrap ((u64.wrap (1*2^(min (u64.wrap n).toNat 64)))-1))) w
def MF(x:Int)(c b:Addr):=
 Dr (λa=>qb a c λd=>NN d λa3=>qK a a3 0 λe=>qW e x 2 λa5=>qL a a5 0 λf=>qD a b λg=>K (.bool (f==g)) a) w
def MG(s:Sl)(f:Value):=
 qO 0 w λe a c=>cond (decide (a<((s.n:Nat):Int))) (qW s a 1 λg=>qD c g λi=>eX P f #[Iv i] c λh d=>∃b,h=.returned (.bool b)/\cond b (K (Iv a) d) ((e (i64.wrap (a+1)) d))) (K (Iv (-1)) c)
def y6(s:Sl)(v:Int):=
 qO 0 w λc b a=>cond (decide (b<((s.n:Nat):Int))) (qW s b 1 λd=>qD a d λe=>cond (v==e) (K (Iv b) a) ((c (i64.wrap (b+1)) a))) (K (Iv (-1)) a)
def MH(l:Sl):=
 qO 0 w λm c k=>cond (decide (c<((l.n:Nat):Int))) (qW l c 3 λA=>ql k A λB C D=>qi k λa n=>qU [Iv B,Iv C,Iv D] a n λe=>qh (λh=>cond (c==0) (qL e a 0 λo=>h (o==(-1)) e) (h false e)) λd b=>cond (!d) (qL b a 0 λp=>cond (decide (p<0)) (K (.bool false) b) (qL b a 0 λq=>cond (decide (q≥c)) (K (.bool false) b) (qL b a 1 λr=>qF vI #[Iv r] b λs f=>cond (!s) (K (.bool false) f) (qL f a 2 λt=>qF vI #[Iv t] f λu i=>cond (!u) (K (.bool false) i) ((m (i64.wrap (c+1)) i)))))) (qL b a 1 λv=>qF vI #[Iv v] b λx g=>cond (!x) (K (.bool false) g) (qL g a 2 λy=>qF vI #[Iv y] g λz j=>cond (!z) (K (.bool false) j) ((m (i64.wrap (c+1)) j))))) (K (.bool (decide (((l.n:Nat):Int)<=64))) k)
def MI(b c d:Int):=
 Al (.cells #[Iv b,Iv c,Iv d] 247) (λa w2=>qL w2 a 2 λe=>qL w2 a 1 λf=>K (Iv (min1 e f)) w2) w
def aig(l:Sl)(g target:Int):=
 Al (.cells #[.bool false] 4) (λa w2=>qN Dx #[Sv l,Iv g,Iv target] w2 λf h=>ib P 15 f #[12] (jO Go.Proofs.Tryz.f238.body) (jP Go.Proofs.Tryz.f238.body) .ret (((((((iQ [Sv l,Iv g,Iv target] 0 .nil).put (some 6) (Pv (some a))).put (some 8) (Sv l)).put (some 9) (Iv g)).put (some 10) (Iv target)).put (some 11) f)) h (λb6 i=>St a (.bool true) (λd=>d.heap[b6]?=some (.deferred (some []))/\∃e:Bool,(d.putObj b6 (.deferred none)).cell? a=some (.bool e)/\K (.bool e) (d.putObj b6 (.deferred none))) i) (λb7 c=>c.heap[b7]?=some (.deferred (some []))/\∃b:Bool,(c.putObj b7 (.deferred none)).cell? a=some (.bool b)/\K (.bool b) (c.putObj b7 (.deferred none)))) w
def MJ(a p s:Int):=
 zN yT #[.int .u64 (u64.wrap a),.int .u64 (u64.wrap p)] w λd e b=>zN vH #[.int .u64 d,.int .u64 e,.int .u64 (u64.wrap s)] b λf g c=>K (Iv (i64.wrap f)) c
def MK(l dU:Sl)(target:Int):=
 qF Dv #[Sv l] w λb a=>cond b (cond (((dU.n:Nat):Int)==((l.n:Nat):Int)) (cond (decide ((0:Int)<=target)) (K (.bool (decide (target<((l.n:Nat):Int)))) a) (K (.bool false) a)) (K (.bool false) a)) (K (.bool false) a)
def ML(l:Sl)(g target:Int):=
 Al (.cells #[Sv l] 245) (λa w2=>qC #[Iv g] w2 λb d=>qC #[Iv target] d λc e=>K (.func (.func tJ) #[] #[Pv (some b),Pv (some c),Pv (some a)]) e) w
def MM(a:Int):=
 cond (decide (a<0)) (K (.bool true) w) (K (.bool (decide (a>1099511627776))) w)
def MN(s:Sl)(f:Value):=
 qQ Du #[Sv s,f] w λb a=>K (.bool (decide (b≥0))) a
def D3(x y:Int):=
 0<=(32:Int)/\0<=(32:Int)/\0<=(32:Int)/\0<=(32:Int)/\0<=(32:Int)/\K (.tuple #[.int .u64 (u64.wrap ((u64.wrap ((u64.wrap ((x.fdiv (2^(min (32:Int).toNat 64)))*(y.fdiv (2^(min (32:Int).toNat 64)))))+((u64.wrap ((u64.wrap ((x.fdiv (2^(min (32:Int).toNat 64)))*(bV .u64 y 4294967295)))+((u64.wrap ((bV .u64 x 4294967295)*(bV .u64 y 4294967295))).fdiv (2^(min (32:Int).toNat 64))))).fdiv (2^(min (32:Int).toNat 64)))))+((u64.wrap ((bV .u64 (u64.wrap ((u64.wrap ((x.fdiv (2^(min (32:Int).toNat 64)))*(bV .u64 y 4294967295)))+((u64.wrap ((bV .u64 x 4294967295)*(bV .u64 y 4294967295))).fdiv (2^(min (32:Int).toNat 64))))) 4294967295)+(u64.wrap ((bV .u64 x 4294967295)*(y.fdiv (2^(min (32:Int).toNat 64))))))).fdiv (2^(min (32:Int).toNat 64))))),.int .u64 (u64.wrap (x*y))]) w
def MO(x:Sl)(cmp:Value):=
 qE Ke #[Sv x,Iv ((x.n:Nat):Int),cmp] w λa=>K (.tuple #[]) a
def MP(b c d e:Int):=
 Al (.cells #[Iv b,.int .u64 c] 302) (λh w2=>Al (.cells #[Iv d,.int .u64 e] 302) (λi a=>∃f:Int,a.cell? (i.add 1)=some (.int .u64 f)/\∃g:Int,a.cell? (h.add 1)=some (.int .u64 g)/\qQ J0 #[.int .u64 f,.int .u64 g] a λk j=>K (Iv k) j) w2) w
def MQ(x y:Int):=
 qF DH #[.int .u64 x] w λd c=>qF DH #[.int .u64 y] c λb a=>cond d (cond b (K (Iv 0) a) (K (Iv (-1)) a)) (cond b (K (Iv 1) a) (cond (decide (x<y)) (K (Iv (-1)) a) (cond (decide (x>y)) (K (Iv 1) a) (K (Iv 0) a))))
def MR(id:Int)(c b:Addr):=
 Dr (λa=>qc a c λg=>qb a b λh=>NN h λa4=>qM a a4 0 λi=>∃e:Int,∃j:Int,gk P 140 (.map i) (Iv id) false a (.agg #[Iv e,Iv j])/\qF pW #[Sv g,Iv e] a λd f=>K (.bool (!d)) f) w
def MS(x:Sl)(cmp:Value):=
 qE Kg #[Sv x,Iv ((x.n:Nat):Int),cmp] w λa=>K (.tuple #[]) a
def MT(a b:Int)(d:Addr):=
 Dr (λc=>qb c d λk=>NN k λa3=>qM c a3 0 λl=>∃m:Int,∃i:Int,gk P 140 (.map l) (Iv b) false c (.agg #[Iv m,Iv i])/\qb c d λn=>NN n λj=>qM c j 0 λo=>∃g:Int,∃e:Int,gk P 140 (.map o) (Iv a) false c (.agg #[Iv g,Iv e])/\qQ J4 #[Iv i,Iv e] c λh f=>K (Iv h) f) w
def MU(x y:Int):=
 qF DG #[Iv x] w λd c=>qF DG #[Iv y] c λb a=>cond d (cond b (K (Iv 0) a) (K (Iv (-1)) a)) (cond b (K (Iv 1) a) (cond (decide (x<y)) (K (Iv (-1)) a) (cond (decide (x>y)) (K (Iv 1) a) (K (Iv 0) a))))
def MV(c:cg)(id p q r s t u v:Int)(x y:Bool)(chain:Sl):=
 Al (.cells #[Iv p,Iv q,Iv r,Iv s,Iv t,Iv u,Iv v,.bool x,.bool y] 57) (λV w2=>qO 0 w2 λT n d=>cond (decide (n<((chain.n:Nat):Int))) (qW chain n 1 λU=>qD d U λS=>Dr (λf=>NN c λe=>qZ f (e.add 4) 2 λk=>qQ nz #[Pv c,Iv S] f λB g=>qG g (e.add 4) 2 (Pv k) λW=>qQ Kh #[Pv k,Iv S] g λC h=>cond (decide (B≥C)) (K (.bool false) h) ((T (i64.wrap (n+1)) h))) d) (NN c λa20=>qZ d (a20.add 4) 0 λD=>qj tK #[Pv D] d λl E a=>cond (E !=0) (K (.bool false) a) (NN c λa26=>qZ a (a26.add 4) 2 λF=>qj vJ #[Pv F,Sv chain,Iv 1] a λX Y z=>Dr (λb=>NN c λa33=>qZ b (a33.add 4) 1 λm=>qY b V λG H I J L M N O P=>zJ vF #[Pv c,.agg #[Iv G,Iv H,Iv I,Iv J,Iv L,Iv M,Iv N,.bool O,.bool P]] b λQ i=>qG i (a33.add 4) 1 (Pv m) λZ=>qQ DI #[Pv m,Iv l,.string Q] i λaa j=>NN c λo=>qZ j o 10 λR=>qQ adc #[Pv R,Iv id,Iv 2,Iv l] j λab A=>K (.bool true) A) z))) w
def MW(l:cg)(g:Int):=
 qF yW #[Iv g] w λk b=>cond (!k) (K (.int .u64 0) b) (NN l λa4=>cx (some (a4.add 0)) 64 g 2 λa5=>qL b a5 0 λm=>zU Ki #[Iv g,Iv m] b λn j=>Dr (λa=>NN l λc=>cx (some (c.add 0)) 64 g 2 λd=>qL a d 0 λi=>NN l λe=>cx (some (e.add 0)) 64 g 2 λf=>St (f.add 0) (Iv (i64.wrap (i+1))) (λh=>K (.int .u64 n) h) a) j)
def MX(c:cg)(g:Int):=
 ∃(p:Sl->bh6) (M2:Sl->World->Nat),(NN c λR=>qZ w R 0 λS=>qJ pV #[Pv S,Iv g] w λk z=>NN c λq=>qZ z (q.add 1) 2 λA=>qj vJ #[Pv A,Sv k,Iv 1] z λB C e=>q9 (λm=>cond (C==0) (NN c λr=>qZ e (r.add 1) 0 λD=>qj tK #[Pv D] e λE F f=>cond (F==0) (K (.tuple #[Iv E,Iv (-1),Iv 0]) f) (NN c λa27=>qZ f (a27.add 1) 2 λG=>qQ tE #[Pv G,Sv k,Iv 1] f λU v=>m 0 v)) (m B e)) λb u=>qF tG #[Pv c,Iv b] u λH o=>cond H (p k o) (K (.tuple #[Iv (-1),Iv b,Iv 12]) o))/\∀T:Nat->Value,∀a:Sl,∀l:World,p a l->NN c λa35=>qZ l (a35.add 1) 2 λI=>qj vJ #[Pv I,Sv a,Iv 1] l λJ L h=>q9 (λn=>cond (L==0) (NN c λs=>qZ h (s.add 1) 0 λM=>qj tK #[Pv M] h λN O i=>cond (O==0) (K (.tuple #[Iv N,Iv (-1),Iv 0]) i) (NN c λt=>qZ i (t.add 1) 2 λP=>qQ tE #[Pv P,Sv a,Iv 1] i λV y=>n 0 y)) (n J h)) λd x=>qF tG #[Pv c,Iv d] x λQ j=>cond Q ((p a j/\M2 a j<M2 a l)) (K (.tuple #[Iv (-1),Iv d,Iv 12]) j)
def MY(l:cg)(x b a:Int):=
 zO DJ #[.int .u64 x] w λq u t i=>qg (λr=>cond (!t) (K (.bool false) i) (qF yW #[Iv q] i λk f=>cond (!k) (K (.bool false) f) (NN l λg=>cx (some (g.add 0)) 64 q 2 λh=>qL f h 0 λm=>qF Kj #[.int .u64 x,Iv m,Iv a] f λn c=>cond (!n) (K (.bool false) c) (r c)))) λs=>qF yW #[Iv b] s λo d=>cond o (Dr (λe=>NN l λa22=>cx (some (a22.add 0)) 64 b 2 λa23=>qL e a23 1 λp=>NN l λa25=>cx (some (a25.add 0)) 64 b 2 λa26=>St (a26.add 1) (Iv (i64.wrap (p+1))) (λj=>K (.bool true) j) e) d) (K (.bool true) d)
def MZ(c:cg)(id a g:Int)(text:ByteArray)(dZ:Bool):=
 NN c λl=>qZ w (l.add 1) 1 λn=>qQ DI #[Pv n,Iv a,.string text] w λs h=>NN c λm=>qZ h m 10 λo=>qQ CG #[Pv o,Iv id,Iv g] h λp i=>NN c λd=>qZ i d 10 λj=>qQ adc #[Pv j,Iv id,Iv 1,Iv a] i λq b=>NN c λe=>qZ b e 8 λk=>qQ Kk #[Pv k,Iv id,Iv g,.bool dZ] b λr f=>K (.tuple #[]) f
def M0(c:cg):=
 NN c λr=>qK w r 12 λp=>qf ⟨none,0,0⟩ 0 w λq h g f=>cond (decide (g<((p.n:Nat):Int))) (qW p g 3 λa9=>qa f a9 λl m n=>qx f λa j=>qU [Iv l,Iv m,.bool n] a j λb=>qy b a 2 λo=>Al (.cells #[.bool o] 4) (λi k=>∃e:Sl,∃d:World,Sem.run P (Builtin.append_ #[194,194] 194 #[Sv h,.slice (some i) 1 1]) k=.ok (Sv e) d/\(q e (i64.wrap (g+1)) d)) b) (K (Sv h) f)
def M1(s:cg)(c d:Int):=
 Al (.cells #[Iv c,Iv d] 54) (λb w2=>Dr (λa=>qL a b 1 λg=>cond (decide ((0:Int)<=g)) (qL a b 1 λf=>qL a b 0 λh=>qQ CJ #[Pv s,Iv h] a λi e=>zH e b 1 (Iv f) λj=>K (.bool (decide (f<i))) e) (K (.bool false) a)) w2) w
def M3(e f:Int):=
 Al (.cells #[Iv e,Iv f] 54) (λk w2=>zD w2 λg i=>zZ i k λl m=>qO 0 i λj a c=>cond (decide (a<16)) (cx (some g) 16 a 1 λd=>St d (.int .u8 (IntKind.u8.wrap ((IntKind.u8.wrap ((IntKind.u8.wrap ((IntKind.u8.wrap l)*31))+(IntKind.u8.wrap ((IntKind.u8.wrap m)*7))))+(IntKind.u8.wrap a)))) (λh=>(j (i64.wrap (a+1)) h)) c) (∃b:ByteArray,u3 P 272 9 (.slice (nc g 0 16 1) (16-0) (16-0)) c (.string b)/\K (.string b) c)) w
def M4(s:cg)(i:Int):=
 qR tI #[Pv s,Iv i] w λb a=>cond b.isNone (K (.tuple #[.string (ByteArray.mk #[]),Iv 1]) a) (NN b λa4=>∃c:ByteArray,u3 P 272 9 (.slice (nc a4 0 16 1) (16-0) (16-0)) a (.string c)/\K (.tuple #[.string c,Iv 0]) a)
def M5(m:cg)(i:Int)(on:Bool):=
 qg (λl=>cond (decide (i<0)) (K (.bool false) w) (NN m λa4=>qL w a4 0 λn=>cond (decide (i≥n)) (K (.bool false) w) (qF Kn #[Pv m,Iv i] w λo j=>cond (o==on) (K (.bool false) j) (l j)))) λw2=>zC DM #[Iv i] w2 λa k d=>NN m λe=>qK d e 1 λb=>qW b a 1 λf=>∃c:Int,d.cell? f=some (.int .u64 c)/\qW b a 1 λg=>St g (.int .u64 (oK .u64 c k)) (λh=>K (.bool true) h) d
def Yf(x:Int):=
 K (.bool (x !=x)) w
def M6(n:Int):=
 cond (decide ((0:Int)<=n)) (K (.bool (decide (n<=1099511627776))) w) (K (.bool false) w)
def D4(yield:Value)(a f d:Addr):=
 qd w λm c=>qD c a λo=>qD c f λp=>cond (o !=p) (qD c a λq=>yd P none yield #[Iv q] c λn b=>∃e,n=.returned (.bool e)/\cond (!e) (K (.tuple #[]) b) (qD b a λi=>cond (decide (i<0)) (K (.tuple #[]) b) (qc b d λj=>qD b a λk=>qW j k 3 λg=>qL b g 0 λl=>St a (Iv l) (λh=>(([]:List Nat)= []/\(m h))) b))) (K (.tuple #[]) c)
variable{K w}
def Yg(t place a)(h:MC K w t place a):=bL {} #[Pv t,Iv place,Iv a] K w Tryz.func219 h
def Yh(a)(h:MD K w a):=bL (z8 [8,10,14,17,22,23,27,28] [] [(3,[(4,jZ),(9,jZ)])]) #[Sv a] K w Tryz.func231 h
def Yi(n)(h:ME K w n):=bL (z8 [4,5,6]) #[Iv n] K w Tryz.func232 h
def Yj(x b a)(h:MF K w x b a):=bL {(z8 [14]:dS)with head:=λr=>(bif r==1 then 11 else 0)} #[Iv x,Pv (some b),Pv (some a)] K w Tryz.func233 h
def Yk(s f)(h:MG K w s f):=bL {(z8 [7,9,18] [] [(2,[(8,jZ)])]:dS)with dyn:=λd=>[16].contains d} #[Sv s,f] K w Tryz.func234 h
def D5(s v)(h:y6 K w s v):=bL (z8 [7,9,16,18] [] [(2,[(8,jZ)])]) #[Sv s,Iv v] K w Tryz.func235 h
def Yl(l)(h:MH K w l):=bL (z8 [7,9,14,18,25,30,45,47,48] [] [(2,[(8,jZ)])] [(5,[(5,.bool)])]) #[Sv l] K w Tryz.func236 h
def Ym(a b c)(h:MI K w a b c):=bL (z8 [7]) #[.agg #[Iv a,Iv b,Iv c]] K w Tryz.func237 h
def tP:dS:={quiet:=λd=>[14].contains d}
def D6:Nat->Bool:=λd=>[].contains d
def Yn(l:Sl)(g target:Int)(K:bh7)(w:World):mV P fD gG cz tP D6 Go.Proofs.Tryz.f238 #[(.slice l.p l.n l.c),(.int .i64 g),(.int .i64 target)] K w=aig K w l g target:=by kernel_rfl
def Yo:mW P tP Go.Proofs.Tryz.f238 3=true:=by kernel_rfl
def Yp(l:Sl)(g target:Int){K:bh7}{w:World}(h:aig K w l g target):Calls P yS #[(Sv l),(Iv g),(Iv target)] w (bW K):=oh mixed Go.Proofs.Tryz.func238 Yo (by rw[Yn];exact h)
def M7(e:Addr)(d:Int)(b:Nat)(w:World)(R:Ending->bh6):Prop:=
 kU b (λa=>cond (decide (d<0)) (St e (.bool false) (λc=>e0 b (some .ret) R c) a) (e0 b none R a)) w
def Yq(l:Sl)(g target:Int)(c:Addr)(d:Value)(a:Int)(b:Nat)(w:World)(R:Ending->bh6):ma P fD gG cz tP D6 15 b (jO Go.Proofs.Tryz.f238.body) (jP Go.Proofs.Tryz.f238.body) (kW [(12,.int .i64 a)] ((((((iQ [(.slice l.p l.n l.c),(.int .i64 g),(.int .i64 target)] 0 .nil).put (some 6) (.pointer (some c))).put (some 8) (.slice l.p l.n l.c)).put (some 9) (.int .i64 g)).put (some 10) (.int .i64 target)).put (some 11) d)) w R=M7 c a b w R:=by kernel_rfl
def Yr:gF P 15 tP (jO Go.Proofs.Tryz.f238.body)=true/\gF P 15 tP (jP Go.Proofs.Tryz.f238.body)=true:=⟨by kernel_rfl,by kernel_rfl⟩
def Ys(a p s)(h:MJ K w a p s):=bL (z8 [13,15,23,28]) #[Iv a,Iv p,Iv s] K w Tryz.func239 h
def Yt(l dU target)(h:MK K w l dU target):=bL (z8 [11,13,14,18,23,24]) #[Sv l,Sv dU,Iv target] K w Tryz.func240 h
def Yu(l g target)(h:ML K w l g target):=bL {} #[Sv l,Iv g,Iv target] K w Tryz.func241 h
def Yv(a)(h:MM K w a):=bL (z8 [4,7]) #[Iv a] K w Tryz.func242 h
def Yw(s f)(h:MN K w s f):=bL (z8 [8]) #[Sv s,f] K w Tryz.func243 h
def M8(x y)(h:D3 K w x y):=bL (z8 [15,17,19,21,24,27,29,30,32,34,38,39,42,44,46,47,50]) #[.int .u64 x,.int .u64 y] K w Tryz.func244 h
def Yx(x cmp)(h:MO K w x cmp):=bL (z8 [6]) #[Sv x,cmp] K w Tryz.func246 h
def Yy(a b c d)(h:MP K w a b c d):=bL {} #[.agg #[Iv a,.int .u64 b],.agg #[Iv c,.int .u64 d]] K w Tryz.func247 h
def Yz(x y)(h:MQ K w x y):=bL (z8 [16,19]) #[.int .u64 x,.int .u64 y] K w Tryz.func248 h
def YA(id b a)(h:MR K w id b a):=bL (z8 [] [(1,[jQ 11],[8])]) #[Iv id,Pv (some b),Pv (some a)] K w Tryz.func250 h
def YB(x cmp)(h:MS K w x cmp):=bL (z8 [6]) #[Sv x,cmp] K w Tryz.func251 h
def YC(a b c)(h:MT K w a b c):=bL (z8 [] [(1,[jQ 16],[14])]) #[Iv a,Iv b,Pv (some c)] K w Tryz.func252 h
def YD(x y)(h:MU K w x y):=bL (z8 [16,19]) #[Iv x,Iv y] K w Tryz.func253 h
def YE(c id a b d e f g i j k chain)(h:MV K w c id a b d e f g i j k chain):=bL (z8 [14,16,29,30,41] [(4,[[0,1,3,4,5,6,7,8,2,9,10]],[2,9]),(11,[jQ 10],[8,9])] [(2,[(15,jZ)])]) #[Pv c,Iv id,.agg #[Iv a,Iv b,Iv d,Iv e,Iv f,Iv g,Iv i,.bool j,.bool k],Sv chain] K w Tryz.func254 h
def YF(l g)(h:MW K w l g):=bL (z8 [25] [(4,[jQ 13],[12])]) #[Pv l,Iv g] K w Tryz.func255 h
def YG(c g)(h:MX K w c g):=bL {(z8 [29,40] [] [] [(9,[(8,jZ)])]:dS)with goto:=λl=>(bif l==0 then some [(7,.slice)]else none)} #[Pv c,Iv g] K w Tryz.func257 h
def YH(l x b a)(h:MY K w l x b a):=bL (z8 [47] [(5,[jQ 13],[12])] [] [(4,[])]) #[Pv l,.int .u64 x,Iv b,Iv a] K w Tryz.func258 h
def YI(c id a g text dZ)(h:MZ K w c id a g text dZ):=bL {} #[Pv c,Iv id,Iv a,Iv g,.string text,.bool dZ] K w Tryz.func259 h
def YJ(c)(h:M0 K w c):=bL (z8 [10,12,20] [] [(3,[(3,.slice),(11,jZ)])]) #[Pv c] K w Tryz.func261 h
def YK(s a b)(h:M1 K w s a b):=bL (z8 [7,15] [(1,[jQ 13],[9])]) #[Pv s,.agg #[Iv a,Iv b]] K w Tryz.func262 h
def YL(a b)(h:M3 K w a b):=bL (z8 [8,9,12,13,14,16,21,22,24,26] [] [(4,[(15,jZ)])]) #[.agg #[Iv a,Iv b]] K w Tryz.func263 h
def YM(s i)(h:M4 K w s i):=bL (z8 [11,15]) #[Pv s,Iv i] K w Tryz.func265 h
def YN(m i on)(h:M5 K w m i on):=bL (z8 [10,17,24,39] [] [] [(3,[])]) #[Pv m,Iv i,.bool on] K w Tryz.func266 h
def YO(x)(h:Yf K w x):=bL (z8 [5]) #[Iv x] K w Tryz.func272 h
def YP(n)(h:M6 K w n):=bL (z8 [4,7]) #[Iv n] K w Tryz.func273 h
def M9:dS:={quiet:=λd=>[7,19].contains d,loop:=λr=>(bif r==0 then[]else[])}
def YQ:Nat->Bool:=λd=>[15].contains d
def YR(yield:Value)(c b a:Addr)(K:bh7)(w:World):mV P fD gG cz M9 YQ Go.Proofs.Tryz.f274 #[yield,(.pointer (some c)),(.pointer (some b)),(.pointer (some a))] K w=D4 K w yield c b a:=by kernel_rfl
def YS:mW P M9 Go.Proofs.Tryz.f274 4=true:=by kernel_rfl
def YT(yield:Value)(c b a:Addr){K:bh7}{w:World}(h:D4 K w yield c b a):Calls P tJ #[yield,(Pv (some c)),(Pv (some b)),(Pv (some a))] w (bW K):=oh mixed Go.Proofs.Tryz.func274 YS (by rw[YR];exact h)
end Go.Mp
namespace Go.Mp
open Go Go.Vc Go.Proofs
variable{K:bh7}{w:World}
variable(K w)
def Na(data:Sl)(n:Int)(cmp:Value):=
 qI 0 20 w λj a5 b6 i=>cond (decide (b6<=n)) (qE DN #[Sv data,Iv a5,Iv b6,cmp] i λk=>(j b6 (i64.wrap (b6+20)) k)) (qE DN #[Sv data,Iv a5,Iv n,cmp] i λl=>qO 20 l λd a e=>cond (decide (a<n)) (qI 0 (i64.wrap (2*a)) e λf a20 b c=>cond (decide (b<=n)) (qE vK #[Sv data,Iv a20,Iv (i64.wrap (a20+a)),Iv b,cmp] c λg=>(f b (i64.wrap (b+(i64.wrap (2*a)))) g)) (cond (decide ((i64.wrap (a20+a))<n)) (qE vK #[Sv data,Iv a20,Iv (i64.wrap (a20+a)),Iv n,cmp] c λh=>(d (i64.wrap (a*2)) h)) ((d (i64.wrap (a*2)) c)))) (K (.tuple #[]) e))
def YU(x:Int):=
 K (.bool (x !=x)) w
def Nb(data:Sl)(n:Int)(cmp:Value):=
 qI 0 20 w λj a5 b6 i=>cond (decide (b6<=n)) (qE DO #[Sv data,Iv a5,Iv b6,cmp] i λk=>(j b6 (i64.wrap (b6+20)) k)) (qE DO #[Sv data,Iv a5,Iv n,cmp] i λl=>qO 20 l λd a e=>cond (decide (a<n)) (qI 0 (i64.wrap (2*a)) e λf a20 b c=>cond (decide (b<=n)) (qE vL #[Sv data,Iv a20,Iv (i64.wrap (a20+a)),Iv b,cmp] c λg=>(f b (i64.wrap (b+(i64.wrap (2*a)))) g)) (cond (decide ((i64.wrap (a20+a))<n)) (qE vL #[Sv data,Iv a20,Iv (i64.wrap (a20+a)),Iv n,cmp] c λh=>(d (i64.wrap (a*2)) h)) ((d (i64.wrap (a*2)) c)))) (K (.tuple #[]) e))
def Nc(c:cg)(g:Int):=
 qH Cu #[Pv c,Iv g] w λd b e f a=>K (Iv b) a
def Nd(p:cg):=
 NN p λc=>qZ w c 0 λf=>qQ Ko #[Pv f,Iv 0,.bool false] w λb a=>cond (decide (b<0)) (K (.tuple #[Iv (-1),Iv 3]) a) (NN p λd=>qZ a d 0 λg=>qF DF #[Pv g,Iv b,.bool true] a λh e=>K (.tuple #[Iv b,Iv 0]) e)
def Nf(c:cg)(chain:Sl)(n:Int):=
 qC #[Iv n] w λh w2=>qD w2 h λC=>qF C5 #[Sv chain,Iv C] w2 λD t=>cond (!D) (K (.tuple #[Iv (-1),Iv 1]) t) (qQ C6 #[Pv c,Sv chain,(.func (.func DP) #[] #[Pv (some h)])] t λf u=>cond (decide (f≥0)) (Dr (λg=>NN c λj=>cx (some (j.add 0)) 64 f 4 λk=>qL g k 2 λv=>NN c λl=>cx (some (l.add 0)) 64 f 4 λm=>St (m.add 2) (Iv (i64.wrap (v+1))) (λq=>K (.tuple #[Iv f,Iv 22]) q) g) u) (qO 0 u λi e a=>cond (decide (e<((chain.n:Nat):Int))) (qW chain e 1 λa22=>qD a a22 λx=>NN c λa24=>cx (some (a24.add 0)) 64 x 4 λa25=>Dr (λb=>NN (some a25) λa27=>qL b a27 0 λy=>qD b h λz=>NN (some a25) λo=>St (o.add 0) (Iv (i64.wrap (y+z))) (λr=>Dr (λd=>NN (some a25) λa33=>qL d a33 3 λA=>NN (some a25) λa35=>qL d a35 0 λB=>NN (some a25) λp=>St (p.add 3) (Iv (dy A B)) (λs=>(i (i64.wrap (e+1)) s)) d) r) b) a) (K (.tuple #[Iv (-1),Iv 0]) a)))
def Ng(s:cg)(i:Int)(text:ByteArray):=
 qR tI #[Pv s,Iv i] w λc a=>cond c.isNone (K (Iv 1) a) (cond (((text.size:Nat):Int) !=16) (K (Iv 1) a) (NN c λa4=>∃d:Int,∃b:World,Sem.run P (Builtin.copy_ #[272,9] 3 #[.slice (nc a4 0 16 1) (16-0) (16-0),.string text]) a=.ok (Iv d) b/\K (Iv 0) b))
def Nh(g:Int):=
 cond (decide ((0:Int)<=g)) (K (.bool (decide (g<64))) w) (K (.bool false) w)
def Ni(group clock:Int):=
 cond (decide (clock<0)) (K (.int .u64 0) w) (qJ DQ #[] w λe b=>qC #[Iv 1,Iv group,Iv (bV .i64 clock 1099511627775)] b λa c=>zB DK #[Sv e,.slice (some a) 3 3] c λf g d=>K (.int .u64 f) d)
def Nj(x:Int):=
 qJ DQ #[] w λm k=>zF CX #[Sv m,.int .u64 x] k λc n b=>qg (λj=>cond (n !=0) (K (.tuple #[Iv 0,Iv 0,.bool false]) b) (qW c 0 1 λd=>qD b d λg=>cond (g !=1) (K (.tuple #[Iv 0,Iv 0,.bool false]) b) (j b))) λl=>Dr (λa=>qW c 1 1 λe=>qD a e λh=>qW c 2 1 λf=>qD a f λi=>K (.tuple #[Iv h,Iv i,.bool true]) a) l
def Nk(x clock a:Int):=
 qQ Kp #[.int .u64 x,Iv clock] w λc b=>cond (decide ((0:Int)<=c)) (K (.bool (decide (c<=a))) b) (K (.bool false) b)
def Nl(l:cg)(id group:Int)(dZ:Bool):=
 qg (λt=>cond (decide (id<0)) (K (Iv 1) w) (cond (decide (id>16777216)) (K (Iv 1) w) (cond (decide (group<0)) (K (Iv 1) w) (cond (decide (group>16777216)) (K (Iv 1) w) (t w))))) λw2=>NN l λa4=>qM w2 a4 0 λv=>∃q:Int,∃r:Int,∃s:Bool,gk P 140 (.map v) (Iv id) true w2 (.tuple #[.agg #[Iv q,Iv r],.bool s])/\qw w2 λu h=>qU [Iv q,Iv r] u h λe=>cond s (K (Iv 4) e) (qw e λa i=>qU [Iv group,Iv 0] a i λb=>qg (λd=>cond dZ (qL b a 1 λm=>St (a.add 1) (Iv (i64.wrap (m+1))) (λk=>d k) b) (d b)) λj=>Dr (λc=>NN l λg=>qM c g 0 λn=>zZ c a λo p=>∃f:World,Sem.run P (Instr.mapUpdate 140 (.map n) (Iv id) (.agg #[Iv o,Iv p])) c=.ok () f/\K (Iv 0) f) j)
def Nm(a values:Sl):=
 qg (λp=>qp Dq #[Sv a] w λr q i=>cond (!q) (K (.tuple #[.int .u64 0,Iv 1]) i) (cond (((values.n:Nat):Int) !=((a.n:Nat):Int)) (K (.tuple #[.int .u64 0,Iv 1]) i) (p i))) λw2=>zA 0 0 0 w2 λo g b d c=>cond (decide (d<((a.n:Nat):Int))) (qW a d 1 λk=>qD c k λh=>qW values d 1 λl=>qD c l λe=>qg (λj=>cond (decide (e<0)) (K (.tuple #[.int .u64 0,Iv 1]) c) (zU Ds #[Iv h] c λn f=>cond (decide ((u64.wrap e)>n)) (K (.tuple #[.int .u64 0,Iv 1]) f) (j f))) λm=>0<=b/\(o (iG .u64 g (u64.wrap ((u64.wrap e)*2^(min b.toNat 64)))) (u64.wrap (b+(u64.wrap h))) (i64.wrap (d+1)) m)) (K (.tuple #[.int .u64 g,Iv 0]) c)
def Nn(m:cg)(i:Int):=
 qg (λf=>cond (decide (i<0)) (K (.bool false) w) (NN m λa4=>qL w a4 0 λg=>cond (decide (i≥g)) (K (.bool false) w) (f w))) λw2=>zC DM #[Iv i] w2 λh j b=>NN m λc=>qK b c 1 λe=>qW e h 1 λd=>∃a:Int,b.cell? d=some (.int .u64 a)/\K (.bool ((bV .u64 a j) !=0)) b
def Np(i:Int):=
 0<=(6:Int)/\0<=(u64.wrap (bV .i64 i 63))/\K (.tuple #[Iv (i.fdiv (2^(min (6:Int).toNat 64))),.int .u64 (u64.wrap (1*2^(min (u64.wrap (bV .i64 i 63)).toNat 64)))]) w
def Nq(data:Sl)(a b:Int)(cmp:Value):=
 qO (i64.wrap (a+1)) w λh i5 o=>cond (decide (i5<b)) (qO i5 o λA c B=>qg (λi=>Dr (λd=>cond (decide (c>a)) (qW data c 2 λj=>zM d j λr s=>qW data (i64.wrap (c-1)) 2 λk=>zM d k λt u=>eX P cmp #[.agg #[Iv r,.int .u64 s],.agg #[Iv t,.int .u64 u]] d λm f=>∃g,m=.returned (Iv g)/\cond (decide (g<0)) (i f) ((h (i64.wrap (i5+1)) f))) ((h (i64.wrap (i5+1)) d))) B) λn=>Dr (λe=>qW data (i64.wrap (c-1)) 2 λa25=>zM e a25 λv x=>qW data c 2 λa28=>zM e a28 λy z=>qW data c 2 λl=>qU [Iv v,.int .u64 x] l e λp=>qW data (i64.wrap (c-1)) 2 λa33=>qU [Iv y,.int .u64 z] a33 p λq=>(A (i64.wrap (c-1)) q)) n) (K (.tuple #[]) o)
def Nr(data:Sl)(a m b:Int)(cmp:Value):=
 cond ((i64.wrap (m-a))==1) (qI m b w λT i5 j aj=>cond (decide (i5<j)) (0<=(1:Int)/\Dr (λQ=>qW data (i64.wrap ((u64.wrap (i64.wrap (i5+j))).fdiv (2^(min (1:Int).toNat 64)))) 2 λaL=>zM Q aL λaM ap=>qW data a 2 λW=>zM Q W λaq ar=>eX P cmp #[.agg #[Iv aM,.int .u64 ap],.agg #[Iv aq,.int .u64 ar]] Q λaf z=>∃J,af=.returned (Iv J)/\cond (decide (J<0)) ((T (i64.wrap ((i64.wrap ((u64.wrap (i64.wrap (i5+j))).fdiv (2^(min (1:Int).toNat 64))))+1)) j z)) ((T i5 (i64.wrap ((u64.wrap (i64.wrap (i5+j))).fdiv (2^(min (1:Int).toNat 64)))) z))) aj) (qO a aj λU d A=>cond (decide (d<(i64.wrap (i5-1)))) (Dr (λl=>qW data (i64.wrap (d+1)) 2 λa23=>zM l a23 λau av=>qW data d 2 λa26=>zM l a26 λaw ax=>qW data d 2 λa29=>qU [Iv au,.int .u64 av] a29 l λak=>qW data (i64.wrap (d+1)) 2 λX=>qU [Iv aw,.int .u64 ax] X ak λal=>(U (i64.wrap (d+1)) al)) A) (K (.tuple #[]) A))) (cond ((i64.wrap (b-m))==1) (qI a m w λr i37 g B=>cond (decide (i37<g)) (0<=(1:Int)/\Dr (λn=>qW data m 2 λa40=>zM n a40 λay az=>qW data (i64.wrap ((u64.wrap (i64.wrap (i37+g))).fdiv (2^(min (1:Int).toNat 64)))) 2 λY=>zM n Y λaA aB=>eX P cmp #[.agg #[Iv ay,.int .u64 az],.agg #[Iv aA,.int .u64 aB]] n λag C=>∃L,ag=.returned (Iv L)/\cond (!(decide (L<0))) ((r (i64.wrap ((i64.wrap ((u64.wrap (i64.wrap (i37+g))).fdiv (2^(min (1:Int).toNat 64))))+1)) g C)) ((r i37 (i64.wrap ((u64.wrap (i64.wrap (i37+g))).fdiv (2^(min (1:Int).toNat 64)))) C))) B) (qO m B λV e D=>cond (decide (e>i37)) (Dr (λo=>qW data (i64.wrap (e-1)) 2 λZ=>zM o Z λaC aD=>qW data e 2 λaa=>zM o aa λaE aF=>qW data e 2 λab=>qU [Iv aC,.int .u64 aD] ab o λam=>qW data (i64.wrap (e-1)) 2 λa63=>qU [Iv aE,.int .u64 aF] a63 am λcH=>(V (i64.wrap (e-1)) cH)) D) (K (.tuple #[]) D))) (0<=(1:Int)/\zP (λt=>cond (decide (m>(i64.wrap ((u64.wrap (i64.wrap (a+b))).fdiv (2^(min (1:Int).toNat 64)))))) (t (i64.wrap ((i64.wrap ((i64.wrap ((u64.wrap (i64.wrap (a+b))).fdiv (2^(min (1:Int).toNat 64))))+m))-b)) (i64.wrap ((u64.wrap (i64.wrap (a+b))).fdiv (2^(min (1:Int).toNat 64)))) w) (t a m w)) λh ai an=>qI h ai an λs c f p=>cond (decide (c<f)) (0<=(1:Int)/\Dr (λq=>qW data (i64.wrap ((i64.wrap ((i64.wrap ((i64.wrap ((u64.wrap (i64.wrap (a+b))).fdiv (2^(min (1:Int).toNat 64))))+m))-1))-(i64.wrap ((u64.wrap (i64.wrap (c+f))).fdiv (2^(min (1:Int).toNat 64)))))) 2 λad=>zM q ad λaG aH=>qW data (i64.wrap ((u64.wrap (i64.wrap (c+f))).fdiv (2^(min (1:Int).toNat 64)))) 2 λae=>zM q ae λaI aJ=>eX P cmp #[.agg #[Iv aG,.int .u64 aH],.agg #[Iv aI,.int .u64 aJ]] q λah E=>∃M,ah=.returned (Iv M)/\cond (!(decide (M<0))) ((s (i64.wrap ((i64.wrap ((u64.wrap (i64.wrap (c+f))).fdiv (2^(min (1:Int).toNat 64))))+1)) f E)) ((s c (i64.wrap ((u64.wrap (i64.wrap (c+f))).fdiv (2^(min (1:Int).toNat 64)))) E))) p) (qg (λu=>qh (λv=>cond (decide (c<m)) (v (decide (m<(i64.wrap ((i64.wrap ((i64.wrap ((u64.wrap (i64.wrap (a+b))).fdiv (2^(min (1:Int).toNat 64))))+m))-c)))) p) (v false p)) λaK G=>cond aK (qE Kq #[Sv data,Iv c,Iv m,Iv (i64.wrap ((i64.wrap ((i64.wrap ((u64.wrap (i64.wrap (a+b))).fdiv (2^(min (1:Int).toNat 64))))+m))-c)),cmp] G λao=>u ao) (u G)) λF=>qg (λx=>qh (λy=>cond (decide (a<c)) (y (decide (c<(i64.wrap ((u64.wrap (i64.wrap (a+b))).fdiv (2^(min (1:Int).toNat 64)))))) F) (y false F)) λR I=>cond R (qE vK #[Sv data,Iv a,Iv c,Iv (i64.wrap ((u64.wrap (i64.wrap (a+b))).fdiv (2^(min (1:Int).toNat 64)))),cmp] I λN=>x N) (x I)) λH=>qh (λi=>cond (decide ((i64.wrap ((u64.wrap (i64.wrap (a+b))).fdiv (2^(min (1:Int).toNat 64))))<(i64.wrap ((i64.wrap ((i64.wrap ((u64.wrap (i64.wrap (a+b))).fdiv (2^(min (1:Int).toNat 64))))+m))-c)))) (i (decide ((i64.wrap ((i64.wrap ((i64.wrap ((u64.wrap (i64.wrap (a+b))).fdiv (2^(min (1:Int).toNat 64))))+m))-c))<b)) H) (i false H)) λS k=>cond S (qE vK #[Sv data,Iv (i64.wrap ((u64.wrap (i64.wrap (a+b))).fdiv (2^(min (1:Int).toNat 64)))),Iv (i64.wrap ((i64.wrap ((i64.wrap ((u64.wrap (i64.wrap (a+b))).fdiv (2^(min (1:Int).toNat 64))))+m))-c)),Iv b,cmp] k λO=>K (.tuple #[]) O) (K (.tuple #[]) k))))
def Ns(data:Sl)(a b:Int)(cmp:Value):=
 qO (i64.wrap (a+1)) w λh i5 o=>cond (decide (i5<b)) (qO i5 o λu c v=>qg (λi=>Dr (λd=>cond (decide (c>a)) (qW data c 1 λj=>qD d j λq=>qW data (i64.wrap (c-1)) 1 λk=>qD d k λr=>eX P cmp #[Iv q,Iv r] d λl f=>∃g,l=.returned (Iv g)/\cond (decide (g<0)) (i f) ((h (i64.wrap (i5+1)) f))) ((h (i64.wrap (i5+1)) d))) v) λm=>Dr (λe=>qW data (i64.wrap (c-1)) 1 λa23=>qD e a23 λs=>qW data c 1 λa25=>qD e a25 λt=>qW data c 1 λa27=>St a27 (Iv s) (λn=>qW data (i64.wrap (c-1)) 1 λa29=>St a29 (Iv t) (λp=>(u (i64.wrap (c-1)) p)) n) e) m) (K (.tuple #[]) o)
def Nt(data:Sl)(a m b:Int)(cmp:Value):=
 cond ((i64.wrap (m-a))==1) (qI m b w λN i5 i ag=>cond (decide (i5<i)) (0<=(1:Int)/\Dr (λM=>qW data (i64.wrap ((u64.wrap (i64.wrap (i5+i))).fdiv (2^(min (1:Int).toNat 64)))) 1 λaB=>qD M aB λaC=>qW data a 1 λR=>qD M R λan=>eX P cmp #[Iv aC,Iv an] M λZ x=>∃I,Z=.returned (Iv I)/\cond (decide (I<0)) ((N (i64.wrap ((i64.wrap ((u64.wrap (i64.wrap (i5+i))).fdiv (2^(min (1:Int).toNat 64))))+1)) i x)) ((N i5 (i64.wrap ((u64.wrap (i64.wrap (i5+i))).fdiv (2^(min (1:Int).toNat 64)))) x))) ag) (qO a ag λO d y=>cond (decide (d<(i64.wrap (i5-1)))) (Dr (λj=>qW data (i64.wrap (d+1)) 1 λS=>qD j S λao=>qW data d 1 λa23=>qD j a23 λap=>qW data d 1 λa25=>St a25 (Iv ao) (λae=>qW data (i64.wrap (d+1)) 1 λa27=>St a27 (Iv ap) (λaf=>(O (i64.wrap (d+1)) af)) ae) j) y) (K (.tuple #[]) y))) (cond ((i64.wrap (b-m))==1) (qI a m w λo i33 g z=>cond (decide (i33<g)) (0<=(1:Int)/\Dr (λk=>qW data m 1 λa36=>qD k a36 λaq=>qW data (i64.wrap ((u64.wrap (i64.wrap (i33+g))).fdiv (2^(min (1:Int).toNat 64)))) 1 λT=>qD k T λar=>eX P cmp #[Iv aq,Iv ar] k λaa A=>∃J,aa=.returned (Iv J)/\cond (!(decide (J<0))) ((o (i64.wrap ((i64.wrap ((u64.wrap (i64.wrap (i33+g))).fdiv (2^(min (1:Int).toNat 64))))+1)) g A)) ((o i33 (i64.wrap ((u64.wrap (i64.wrap (i33+g))).fdiv (2^(min (1:Int).toNat 64)))) A))) z) (qO m z λQ e B=>cond (decide (e>i33)) (Dr (λl=>qW data (i64.wrap (e-1)) 1 λU=>qD l U λau=>qW data e 1 λV=>qD l V λav=>qW data e 1 λa53=>St a53 (Iv au) (λah=>qW data (i64.wrap (e-1)) 1 λW=>St W (Iv av) (λai=>(Q (i64.wrap (e-1)) ai)) ah) l) B) (K (.tuple #[]) B))) (0<=(1:Int)/\zP (λq=>cond (decide (m>(i64.wrap ((u64.wrap (i64.wrap (a+b))).fdiv (2^(min (1:Int).toNat 64)))))) (q (i64.wrap ((i64.wrap ((i64.wrap ((u64.wrap (i64.wrap (a+b))).fdiv (2^(min (1:Int).toNat 64))))+m))-b)) (i64.wrap ((u64.wrap (i64.wrap (a+b))).fdiv (2^(min (1:Int).toNat 64)))) w) (q a m w)) λh ad aj=>qI h ad aj λp c f cH=>cond (decide (c<f)) (0<=(1:Int)/\Dr (λn=>qW data (i64.wrap ((i64.wrap ((i64.wrap ((i64.wrap ((u64.wrap (i64.wrap (a+b))).fdiv (2^(min (1:Int).toNat 64))))+m))-1))-(i64.wrap ((u64.wrap (i64.wrap (c+f))).fdiv (2^(min (1:Int).toNat 64)))))) 1 λX=>qD n X λaw=>qW data (i64.wrap ((u64.wrap (i64.wrap (c+f))).fdiv (2^(min (1:Int).toNat 64)))) 1 λY=>qD n Y λax=>eX P cmp #[Iv aw,Iv ax] n λab C=>∃L,ab=.returned (Iv L)/\cond (!(decide (L<0))) ((p (i64.wrap ((i64.wrap ((u64.wrap (i64.wrap (c+f))).fdiv (2^(min (1:Int).toNat 64))))+1)) f C)) ((p c (i64.wrap ((u64.wrap (i64.wrap (c+f))).fdiv (2^(min (1:Int).toNat 64)))) C))) cH) (qg (λr=>qh (λs=>cond (decide (c<m)) (s (decide (m<(i64.wrap ((i64.wrap ((i64.wrap ((u64.wrap (i64.wrap (a+b))).fdiv (2^(min (1:Int).toNat 64))))+m))-c)))) cH) (s false cH)) λay E=>cond ay (qE Kr #[Sv data,Iv c,Iv m,Iv (i64.wrap ((i64.wrap ((i64.wrap ((u64.wrap (i64.wrap (a+b))).fdiv (2^(min (1:Int).toNat 64))))+m))-c)),cmp] E λak=>r ak) (r E)) λD=>qg (λt=>qh (λu=>cond (decide (a<c)) (u (decide (c<(i64.wrap ((u64.wrap (i64.wrap (a+b))).fdiv (2^(min (1:Int).toNat 64)))))) D) (u false D)) λaz G=>cond az (qE vL #[Sv data,Iv a,Iv c,Iv (i64.wrap ((u64.wrap (i64.wrap (a+b))).fdiv (2^(min (1:Int).toNat 64)))),cmp] G λal=>t al) (t G)) λF=>qh (λv=>cond (decide ((i64.wrap ((u64.wrap (i64.wrap (a+b))).fdiv (2^(min (1:Int).toNat 64))))<(i64.wrap ((i64.wrap ((i64.wrap ((u64.wrap (i64.wrap (a+b))).fdiv (2^(min (1:Int).toNat 64))))+m))-c)))) (v (decide ((i64.wrap ((i64.wrap ((i64.wrap ((u64.wrap (i64.wrap (a+b))).fdiv (2^(min (1:Int).toNat 64))))+m))-c))<b)) F) (v false F)) λaA H=>cond aA (qE vL #[Sv data,Iv (i64.wrap ((u64.wrap (i64.wrap (a+b))).fdiv (2^(min (1:Int).toNat 64)))),Iv (i64.wrap ((i64.wrap ((i64.wrap ((u64.wrap (i64.wrap (a+b))).fdiv (2^(min (1:Int).toNat 64))))+m))-c)),Iv b,cmp] H λam=>K (.tuple #[]) am) (K (.tuple #[]) H))))
def Nu(m:cg)(a:Int)(on:Bool):=
 NN m λq=>qK w q 1 λs=>qO 0 w λn b e=>cond (decide (b<((s.n:Nat):Int))) (NN m λr=>qK e r 1 λt=>qW t b 1 λo=>∃f:Int,e.cell? o=some (.int .u64 f)/\q9 (λg=>cond (!on) (g (oL .u64 f) e) (g f e)) λi c=>q9 (λh=>0<=(6:Int)/\cond (decide ((i64.wrap ((dy a 0)-(i64.wrap (b*2^(min (6:Int).toNat 64)))))≥64)) ((n (i64.wrap (b+1)) c)) (cond (decide ((i64.wrap ((dy a 0)-(i64.wrap (b*2^(min (6:Int).toNat 64)))))>0)) (0<=(u64.wrap (i64.wrap ((dy a 0)-(i64.wrap (b*2^(min (6:Int).toNat 64))))))/\0<=(u64.wrap (i64.wrap ((dy a 0)-(i64.wrap (b*2^(min (6:Int).toNat 64))))))/\h (u64.wrap ((i.fdiv (2^(min (u64.wrap (i64.wrap ((dy a 0)-(i64.wrap (b*2^(min (6:Int).toNat 64)))))).toNat 64)))*2^(min (u64.wrap (i64.wrap ((dy a 0)-(i64.wrap (b*2^(min (6:Int).toNat 64)))))).toNat 64))) c) (h i c))) λk j=>cond (k==0) ((n (i64.wrap (b+1)) j)) (0<=(6:Int)/\qQ Ks #[.int .u64 k] j λl d=>NN m λa23=>qL d a23 0 λp=>cond (decide ((i64.wrap ((i64.wrap (b*2^(min (6:Int).toNat 64)))+l))<p)) (K (Iv (i64.wrap ((i64.wrap (b*2^(min (6:Int).toNat 64)))+l))) d) ((n (i64.wrap (b+1)) d)))) (K (Iv (-1)) e)
def Nv(c d e f:Int)(a:Addr):=
 Al (.cells #[Iv c,Iv d,Iv e,Iv f] 107) (λb w2=>qD w2 a λg=>cond (decide (g>0)) (qL w2 b 0 λh=>qD w2 a λi=>qL w2 b 1 λj=>K (.bool (decide ((i64.wrap (h+i))>j))) w2) (K (.bool false) w2)) w
def Nw:=
 qC #[Iv 1,Iv 8,Iv 40] w λa w2=>K (.slice (some a) 3 3) w2
def Nx(x clock:Int):=
 zO DJ #[.int .u64 x] w λd b c a=>cond (!c) (K (Iv (-1)) a) (cond (decide (clock<0)) (K (Iv (-1)) a) (K (Iv (bV .i64 (i64.wrap (clock-b)) 1099511627775)) a))
def Ny(data:Sl)(a m b:Int)(cmp:Value):=
 qI (i64.wrap (m-a)) (i64.wrap (b-m)) w λe i5 c d=>cond (i5 !=c) (cond (decide (i5>c)) (qE yX #[Sv data,Iv (i64.wrap (m-i5)),Iv m,Iv c,cmp] d λg=>(e (i64.wrap (i5-c)) c g)) (qE yX #[Sv data,Iv (i64.wrap (m-i5)),Iv (i64.wrap ((i64.wrap (m+c))-i5)),Iv i5,cmp] d λh=>(e i5 (i64.wrap (c-i5)) h))) (qE yX #[Sv data,Iv (i64.wrap (m-i5)),Iv m,Iv i5,cmp] d λf=>K (.tuple #[]) f)
def Nz(data:Sl)(a m b:Int)(cmp:Value):=
 qI (i64.wrap (m-a)) (i64.wrap (b-m)) w λe i5 c d=>cond (i5 !=c) (cond (decide (i5>c)) (qE yY #[Sv data,Iv (i64.wrap (m-i5)),Iv m,Iv c,cmp] d λg=>(e (i64.wrap (i5-c)) c g)) (qE yY #[Sv data,Iv (i64.wrap (m-i5)),Iv (i64.wrap ((i64.wrap (m+c))-i5)),Iv i5,cmp] d λh=>(e i5 (i64.wrap (c-i5)) h))) (qE yY #[Sv data,Iv (i64.wrap (m-i5)),Iv m,Iv i5,cmp] d λf=>K (.tuple #[]) f)
def NA(x:Int):=
 cond (x==0) (K (Iv 64) w) (0<=(58:Int)/\cx (some (⟨2,0,none⟩:Addr)) 64 ((u64.wrap ((bV .u64 x (u64.wrap (0-x)))*285870213051353865)).fdiv (2^(min (58:Int).toNat 64))) 1 λb=>∃a:Int,w.cell? b=some (.int .u8 a)/\K (Iv (i64.wrap a)) w)
def NB(data:Sl)(a b n:Int)(cmp:Value):=
 qO 0 w λl i5 i=>cond (decide (i5<n)) (Dr (λc=>qW data (i64.wrap (b+i5)) 2 λm=>zM c m λo p=>qW data (i64.wrap (a+i5)) 2 λd=>zM c d λj k=>qW data (i64.wrap (a+i5)) 2 λe=>qU [Iv o,.int .u64 p] e c λg=>qW data (i64.wrap (b+i5)) 2 λf=>qU [Iv j,.int .u64 k] f g λh=>(l (i64.wrap (i5+1)) h)) i) (K (.tuple #[]) i)
def NC(data:Sl)(a b n:Int)(cmp:Value):=
 qO 0 w λj i5 h=>cond (decide (i5<n)) (Dr (λc=>qW data (i64.wrap (b+i5)) 1 λk=>qD c k λl=>qW data (i64.wrap (a+i5)) 1 λa9=>qD c a9 λi=>qW data (i64.wrap (a+i5)) 1 λd=>St d (Iv l) (λf=>qW data (i64.wrap (b+i5)) 1 λe=>St e (Iv i) (λg=>(j (i64.wrap (i5+1)) g)) f) c) h) (K (.tuple #[]) h)
variable{K w}
def YV(data n cmp)(h:Na K w data n cmp):=bL (z8 [13,22,30,32,35,40,47,48,51,54,62] [] [(2,[(7,jZ),(8,jZ)]),(7,[(6,jZ)]),(9,[(7,jZ),(8,jZ)])]) #[Sv data,Iv n,cmp] K w Tryz.func276 h
def YW(x)(h:YU K w x):=bL (z8 [5]) #[.int .u64 x] K w Tryz.func277 h
def YX(data n cmp)(h:Nb K w data n cmp):=bL (z8 [13,22,30,32,35,40,47,48,51,54,62] [] [(2,[(7,jZ),(8,jZ)]),(7,[(6,jZ)]),(9,[(7,jZ),(8,jZ)])]) #[Sv data,Iv n,cmp] K w Tryz.func279 h
def YY(c g)(h:Nc K w c g):=bL {} #[Pv c,Iv g] K w Tryz.func280 h
def YZ(p)(h:Nd K w p):=bL (z8 [11]) #[Pv p] K w Tryz.func281 h
def Y0(c chain n)(h:Nf K w c chain n):=bL (z8 [21,29,36,38,51,63,66] [(5,[jQ 13],[12]),(11,[jQ 9],[8]),(12,[jQ 13],[12])] [(8,[(37,jZ)])]) #[Pv c,Sv chain,Iv n] K w Tryz.func282 h
def Y1(s i text)(h:Ng K w s i text):=bL (z8 [12,15,16]) #[Pv s,Iv i,.string text] K w Tryz.func283 h
def Y2(g)(h:Nh K w g):=bL (z8 [4,7]) #[Iv g] K w Tryz.func284 h
def Y3(group clock)(h:Ni K w group clock):=bL (z8 [8,13]) #[Iv group,Iv clock] K w Tryz.func285 h
def Y4(x)(h:Nj K w x):=bL {(z8 [14,19] [] [] [(4,[])]:dS)with head:=λr=>(bif r==4 then 9 else 0)} #[.int .u64 x] K w Tryz.func286 h
def Y5(x clock a)(h:Nk K w x clock a):=bL (z8 [12,16]) #[.int .u64 x,Iv clock,Iv a] K w Tryz.func287 h
def Y6(l id group dZ)(h:Nl K w l id group dZ):=bL (z8 [13,16,20,24,41] [(9,[jQ 7],[6])] [] [(3,[]),(9,[])]) #[Pv l,Iv id,Iv group,.bool dZ] K w Tryz.func288 h
def Y7(a values)(h:Nm K w a values):=bL (z8 [22,24,25,28,30,39,42,45,49,51,52,55,56,57] [] [(6,[(8,.int .u64),(9,.int .u64),(29,jZ)])] [(4,[]),(11,[])]) #[Sv a,Sv values] K w Tryz.func291 h
def Y8(m i)(h:Nn K w m i):=bL (z8 [8,15,30,31] [] [] [(3,[])]) #[Pv m,Iv i] K w Tryz.func293 h
def Y9(i)(h:Np K w i):=bL (z8 [5,7,8,9]) #[Iv i] K w Tryz.func294 h
def Za(data a b cmp)(h:Nq K w data a b cmp):=bL {(z8 [11,14,16,20,29,33,36,41,44] [(4,[jQ 17],[14]),(6,[jQ 18],[15,17])] [(1,[(8,jZ)]),(4,[(9,jZ)])] [(6,[])]:dS)with dyn:=λd=>[32].contains d} #[Sv data,Iv a,Iv b,cmp] K w Tryz.func296 h
def Zb(data a m b cmp)(h:Nr K w data a m b cmp):=bL {(z8 [27,28,33,36,37,38,39,50,52,57,58,60,65,68,79,80,85,88,89,90,91,102,105,110,112,117,120,131,132,133,134,137,140,143,148,151,154,155,156,157,162,170,173,177,180,184,194,198,208,212] [(5,[jQ 11],[9]),(11,[jQ 18],[15,17]),(17,[jQ 12],[9]),(23,[jQ 18],[15,17]),(35,[jQ 14],[11])] [(3,[(10,jZ),(11,jZ)]),(9,[(13,jZ)]),(15,[(14,jZ),(15,jZ)]),(21,[(17,jZ)]),(33,[(20,jZ),(21,jZ)])] [(32,[(20,jZ),(21,jZ)]),(40,[(185,.bool)]),(41,[]),(42,[(199,.bool)]),(43,[]),(44,[(213,.bool)])]:dS)with dyn:=λd=>[49,101,169].contains d} #[Sv data,Iv a,Iv m,Iv b,cmp] K w Tryz.func297 h
def Zc(data a b cmp)(h:Ns K w data a b cmp):=bL {(z8 [11,14,16,20,29,33,36,41,44] [(4,[jQ 17],[14]),(6,[jQ 18],[15,17])] [(1,[(8,jZ)]),(4,[(9,jZ)])] [(6,[])]:dS)with dyn:=λd=>[32].contains d} #[Sv data,Iv a,Iv b,cmp] K w Tryz.func298 h
def Zd(data a m b cmp)(h:Nt K w data a m b cmp):=bL {(z8 [27,28,33,36,37,38,39,50,52,57,58,60,65,68,79,80,85,88,89,90,91,102,105,110,112,117,120,131,132,133,134,137,140,143,148,151,154,155,156,157,162,170,173,177,180,184,194,198,208,212] [(5,[jQ 11],[9]),(11,[jQ 18],[15,17]),(17,[jQ 12],[9]),(23,[jQ 18],[15,17]),(35,[jQ 14],[11])] [(3,[(10,jZ),(11,jZ)]),(9,[(13,jZ)]),(15,[(14,jZ),(15,jZ)]),(21,[(17,jZ)]),(33,[(20,jZ),(21,jZ)])] [(32,[(20,jZ),(21,jZ)]),(40,[(185,.bool)]),(41,[]),(42,[(199,.bool)]),(43,[]),(44,[(213,.bool)])]:dS)with dyn:=λd=>[49,101,169].contains d} #[Sv data,Iv a,Iv m,Iv b,cmp] K w Tryz.func299 h
def Ze(m a on)(h:Nu K w m a on):=bL (z8 [12,17,19,34,35,38,41,44,45,47,48,50,52,55,61,63] [] [(3,[(18,jZ)])] [(8,[(8,.int .u64)]),(12,[(8,.int .u64)])]) #[Pv m,Iv a,.bool on] K w Tryz.func300 h
def Zf(b c d e a)(h:Nv K w b c d e a):=bL (z8 [5,10,13]) #[.agg #[Iv b,Iv c,Iv d,Iv e],Pv (some a)] K w Tryz.func301 h
def Zg(h:Nw K w):=bL {} #[] K w Tryz.func302 h
def Zh(x clock)(h:Nx K w x clock):=bL (z8 [18,22,23]) #[.int .u64 x,Iv clock] K w Tryz.func303 h
def Zi(data a m b cmp)(h:Ny K w data a m b cmp):=bL (z8 [14,17,20,23,27,34,38,41,43,49,53] [] [(2,[(10,jZ),(11,jZ)])]) #[Sv data,Iv a,Iv m,Iv b,cmp] K w Tryz.func306 h
def Zj(data a m b cmp)(h:Nz K w data a m b cmp):=bL (z8 [14,17,20,23,27,34,38,41,43,49,53] [] [(2,[(10,jZ),(11,jZ)])]) #[Sv data,Iv a,Iv m,Iv b,cmp] K w Tryz.func307 h
def Zk(x)(h:NA K w x):=bL (z8 [4,8,9,10,13]) #[.int .u64 x] K w Tryz.func308 h
def Zl(data a b n cmp)(h:NB K w data a b n cmp):=bL (z8 [13,15,19,23,27,33] [(3,[jQ 24],[21,23])] [(1,[(10,jZ)])]) #[Sv data,Iv a,Iv b,Iv n,cmp] K w Tryz.func309 h
def Zm(data a b n cmp)(h:NC K w data a b n cmp):=bL (z8 [13,15,19,23,27,33] [(3,[jQ 24],[21,23])] [(1,[(10,jZ)])]) #[Sv data,Iv a,Iv b,Iv n,cmp] K w Tryz.func310 h
end Go.Mp
