/- Part of a proof about the core: of its walks and plain laws. -/
import Derived.Test.YtafigbgagbolgaaGreatDoorC06
set_option linter.all false
set_option maxRecDepth 100000
open Go.IntKind(i64 u64)
namespace Go.Mp
open Go Go.Vc Go.Proofs
variable{K:bh7}{w:World}
variable(K w)
def Oq(c b a:Addr):=
 qb w c λg=>qD w b λh=>zR w a λi j k l m n=>qp CD #[Pv g,Iv h,.agg #[Iv i,Iv j,Iv k,Iv l,Iv m,.bool n]] w λd e f=>K (.tuple #[Iv d,.bool e]) f
def Ot(s:cg):=
 Dr (λa=>NN s λh=>qK a h 0 λi=>NN s λa4=>qZ a a4 1 λg=>qJ JF #[Sv i] a λj e=>qG e a4 1 (Pv g) λk=>qR CS #[Pv g] e λf c=>Al (.cells #[Sv j,Pv f] 112) (λb d=>K (Pv (some b)) d) c) w
def Ei(t:cg)(yield:Value):=
 NN t λa=>qF yL #[Pv (some (a.add 0)),Iv 0,Iv 0,yield] w λb w2=>K (.tuple #[]) w2
def Ou(t:cg)(bH:Int):=
 qF CW #[Iv bH] w λp j=>cond (!p) (K (.tuple #[.int .u64 0,.bool false]) j) (NN t λa4=>zb (some (a4.add 0)) 0 j λo n9 c m=>cond (decide (c<3)) (Dr (λk=>NN n9 λh=>qQ tH #[Iv bH,Iv c] k λn a=>cx (some (h.add 0)) 16 n 1 λi=>qb a i λe=>cond e.isNone (K (.tuple #[.int .u64 0,.bool false]) a) ((o e (i64.wrap (c+1)) a))) m) (qQ tH #[Iv bH,Iv 3] m λd l=>Dr (λb=>NN n9 λa22=>cx (some (a22.add 16)) 16 d 1 λa23=>∃f:Int,b.cell? a23=some (.int .u64 f)/\NN n9 λa25=>∃g:Int,b.cell? (a25.add 32)=some (.int .u16 g)/\0<=(u64.wrap d)/\K (.tuple #[.int .u64 f,.bool ((bV .u16 (g.fdiv (2^(min (u64.wrap d).toNat 16))) 1) !=0)]) b) l))
def Ov(x:Int):=
 zu w λa w2=>qJ CY #[] w2 λP O=>zF CX #[Sv P,.int .u64 x] O λM N B=>cond (N !=0) (qU [Iv 0,Iv 0,.bool false,.bool false] a B λh=>zn h a λn o p q=>K (.tuple #[.agg #[Iv n,Iv o,.bool p,.bool q],Iv N]) h) (Dr (λc=>qW M 0 1 λf=>qD c f λl=>qW M 1 1 λg=>qD c g λm=>zu c λb d=>zG d g (Iv m) λQ=>zG d f (Iv l) λR=>qU [Iv l,Iv m,.bool ((bV .u64 x 67108864) !=0),.bool ((bV .u64 x 134217728) !=0)] b d λi=>zn i b λC D E F=>qF CZ #[.agg #[Iv C,Iv D,.bool E,.bool F]] i λG e=>cond (!G) (qU [Iv 0,Iv 0,.bool false,.bool false] a e λj=>zn j a λr s t u=>K (.tuple #[.agg #[Iv r,Iv s,.bool t,.bool u],Iv 1]) j) (zn e b λH I J L=>qU [Iv H,Iv I,.bool J,.bool L] a e λk=>zn k a λv y z A=>K (.tuple #[.agg #[Iv v,Iv y,.bool z,.bool A],Iv 0]) k)) B)
def aCW:=
 Al (.cells #[Pv none,Pv none,Pv none,Pv none,Pv none,Pv none,Pv none,Pv none,Pv none,Pv none,Pv none,Pv none,Pv none,Pv none,Pv none,Pv none,.int .u64 0,.int .u64 0,.int .u64 0,.int .u64 0,.int .u64 0,.int .u64 0,.int .u64 0,.int .u64 0,.int .u64 0,.int .u64 0,.int .u64 0,.int .u64 0,.int .u64 0,.int .u64 0,.int .u64 0,.int .u64 0,.int .u16 0] 227) (λa w2=>K (Pv (some a)) w2) w
def aun(n:Int):=
 cond (decide ((0:Int)<=n)) (K (.bool (decide (n<=65536))) w) (K (.bool false) w)
def Ow(l:Sl)(I J L M N:Int)(O:Bool):=
 zY #[Iv I,Iv J,Iv L,Iv M,Iv N,.bool O] w λd w2=>qg (λQ=>qF yO #[Sv l] w2 λS o=>cond (!S) (K (.tuple #[.slice none 0 0,Iv 1]) o) (zR o d λT t u v x y=>qF De #[.agg #[Iv T,Iv t,Iv u,Iv v,Iv x,.bool y]] o λz c=>cond (!z) (K (.tuple #[.slice none 0 0,Iv 1]) c) (cond (decide (((l.n:Nat):Int)≥64)) (K (.tuple #[.slice none 0 0,Iv 1]) c) (Q c)))) λR=>qQ Df #[Sv l,(.func (.func JQ) #[] #[Pv (some d)])] R λk g=>q9 (λe=>cond (decide (k<0)) (e ((l.n:Nat):Int) g) (e k g)) λa q=>qg (λf=>Dr (λb=>cond (decide (a<((l.n:Nat):Int))) (qW l a 6 λa29=>qL b a29 0 λA=>qL b d 1 λB=>cond (decide (A<B)) (K (.tuple #[.slice none 0 0,Iv 4]) b) (f b)) (f b)) q) λr=>Dr (λh=>((0:Int)<=a/\a<=((l.c:Nat):Int))/\((0:Int)<=a/\a<=((a.toNat:Nat):Int))/\zR h d λC D E F G H=>((0:Int)<=a/\a<=((l.n:Nat):Int))/\zY #[Iv C,Iv D,Iv E,Iv F,Iv G,.bool H] h λp s=>∃m:Sl,∃i:World,Sem.run P (Builtin.append_ #[109,109] 109 #[.slice (gb l.p 0 a.toNat 6) (a.toNat-0) (a.toNat-0),.slice (some p) 1 1]) s=.ok (Sv m) i/\∃n:Sl,∃j:World,Sem.run P (Builtin.append_ #[109,109] 109 #[Sv m,.slice (gb l.p a.toNat l.c 6) (l.n-a.toNat) (l.c-a.toNat)]) i=.ok (Sv n) j/\K (.tuple #[Sv n,Iv 0]) j) r
def Ox(t:cg)(bH:Int):=
 zh tC #[Pv t,Iv bH] w λd c a=>cond (!c) (K (.bool false) a) (NN t λa5=>qE Dg #[Pv (some (a5.add 0)),Iv bH,Iv 0] a λb=>K (.bool true) b)
def Oy(l:Sl)(c h:Int):=
 qF yO #[Sv l] w λX k=>cond (!X) (K (.slice none 0 0) k) (Al (.cells #[.slice none 0 0] 109) (λf W=>qO 0 W λi d g=>cond (decide (d<((l.n:Nat):Int))) (qW l d 6 λj=>zR g j λp q r s t u=>zg g λa m=>qU [Iv p,Iv q,Iv r,Iv s,Iv t,.bool u] a m λb=>cond (decide (c≥h)) (zR b a λv x y z A B=>zZ b a λC D=>qE yP #[.agg #[Iv v,Iv x,Iv y,Iv z,Iv A,.bool B],Iv C,Iv D,Pv (some f)] b λn=>(i (i64.wrap (d+1)) n)) (zR b a λE F G H I J=>zZ b a λL M=>qE yP #[.agg #[Iv E,Iv F,Iv G,Iv H,Iv I,.bool J],Iv L,Iv (min1 M c),Pv (some f)] b λe=>zR e a λN O P Q R S=>zZ e a λT U=>qE yP #[.agg #[Iv N,Iv O,Iv P,Iv Q,Iv R,.bool S],Iv (dy T h),Iv U,Pv (some f)] e λo=>(i (i64.wrap (d+1)) o))) (qc g f λV=>K (Sv V) g)) k)
def Oz(s:cg)(bH:Int):=
 zg w λb w2=>NN s λa3=>qK w2 a3 0 λn=>zm JS #[Sv n,Iv bH] w2 λo p q i j k l m=>qU [Iv o,Iv p,Iv q,Iv i,Iv j,.bool k] b m λa=>zR a b λc d e f g h=>K (.tuple #[.agg #[Iv c,Iv d,Iv e,Iv f,Iv g,.bool h],.bool l]) a
def OA(c:cg)(id:Int):=
 Al (.cells #[Pv c] 91) (λa w2=>qC #[Iv id] w2 λd b=>qb b a λf=>qp yJ #[Pv f,(.func (.func Dh) #[] #[Pv (some a),Pv (some d)])] b λg h e=>K (.tuple #[Iv g,.bool h]) e) w
def OB(group:Int)(d g c:Addr):=
 Dr (λb=>qb b d λn=>NN n λa3=>qZ b a3 5 λr=>NN r λa5=>qZ b a5 0 λs=>zR b g λt u v j k l=>qD b c λm=>Calls P Jy #[.agg #[Iv t,Iv u,Iv v,Iv j,Iv k,.bool l],Iv m] b λh a=>∃e:Int,∃f:Int,h=.returned (.agg #[Iv e,Iv f])/\qG a a5 0 (Pv s) λx=>qG a a3 5 (Pv r) λy=>zo a d (Pv n) λz=>zX Jx #[Pv s,.agg #[Iv e,Iv f],Iv group] a λo p q i=>K (.tuple #[Iv o,Iv p,Iv q]) i) w
def OD(j k l m n:Int)(o:Bool)(bH:Int):=
 zY #[Iv j,Iv k,Iv l,Iv m,Iv n,.bool o] w λb w2=>Al (.cells #[Iv 0,Iv 0] 54) (λc a=>qL a b 2 λp=>cond (p==2) (qL a b 3 λq=>qL a b 4 λr=>qL a b 0 λs=>qU [Iv q,Iv (i64.wrap ((i64.wrap (r+bH))-s))] c a λi=>zZ i c λe f=>K (.agg #[Iv e,Iv f]) i) (qU [Iv (-1),Iv bH] c a λd=>zZ d c λg h=>K (.agg #[Iv g,Iv h]) d)) w2
def OE(c:cg)(bH id kind:Int)(write:Bool):=
 NN c λd=>qZ w d 5 λf=>NN f λa3=>qZ w a3 0 λg=>qQ vy #[Pv g,Iv id,Iv 1] w λj b=>NN c λe=>qZ b e 6 λh=>qQ JT #[Pv h,Iv bH,.agg #[Iv kind,Iv id,.bool write,.bool false]] b λi a=>K (.tuple #[]) a
def OF(t:cg)(bH x:Int):=
 qF CW #[Iv bH] w λD q=>cond (!D) (K (Iv 1) q) (NN t λa4=>zb (some (a4.add 0)) 0 q λC n9 d z=>cond (decide (d<3)) (qQ tH #[Iv bH,Iv d] z λa c=>qg (λe=>NN n9 λk=>cx (some (k.add 0)) 16 a 1 λl=>qb c l λA=>cond A.isNone (Al (.cells #[Pv none,Pv none,Pv none,Pv none,Pv none,Pv none,Pv none,Pv none,Pv none,Pv none,Pv none,Pv none,Pv none,Pv none,Pv none,Pv none,.int .u64 0,.int .u64 0,.int .u64 0,.int .u64 0,.int .u64 0,.int .u64 0,.int .u64 0,.int .u64 0,.int .u64 0,.int .u64 0,.int .u64 0,.int .u64 0,.int .u64 0,.int .u64 0,.int .u64 0,.int .u64 0,.int .u16 0] 225) (λp r=>NN n9 λa22=>cx (some (a22.add 0)) 16 a 1 λa23=>St a23 (Pv (some p)) (λs=>e s) r) c) (e c)) λf=>NN n9 λa25=>∃i:Int,f.cell? (a25.add 32)=some (.int .u16 i)/\0<=(u64.wrap a)/\NN n9 λa27=>St (a27.add 32) (.int .u16 (iG .u16 i (IntKind.u16.wrap (1*2^(min (u64.wrap a).toNat 16))))) (λg=>NN n9 λa29=>cx (some (a29.add 0)) 16 a 1 λm=>qb g m λB=>(C B (i64.wrap (d+1)) g)) f) (qQ tH #[Iv bH,Iv 3] z λb u=>Dr (λh=>NN n9 λa36=>∃j:Int,h.cell? (a36.add 32)=some (.int .u16 j)/\0<=(u64.wrap b)/\NN n9 λn=>cx (some (n.add 16)) 16 b 1 λo=>St o (.int .u64 x) (λv=>((.int .u64 (u64.wrap b)):Value)=(.int .u64 (u64.wrap b))/\NN n9 λa41=>St (a41.add 32) (.int .u16 (iG .u16 j (IntKind.u16.wrap (1*2^(min (u64.wrap b).toNat 16))))) (λy=>K (Iv 0) y) v) h) u))
def OG(x:Int):=
 qF JU #[.int .u64 x] w λb a=>cond b (K (.int .u64 (iG .u64 x 134217728)) a) (K (.int .u64 x) a)
def OH(group:Int)(e a b:Addr):=
 qm w e λr=>cond r (Dr (λw2=>qb w2 a λs=>NN s λa4=>qZ w2 a4 5 λt=>NN t λp=>qZ w2 p 0 λu=>qL w2 b 1 λv=>zX JB #[Pv u,Iv v,Iv group] w2 λg h i q=>K (.tuple #[Iv g,Iv h,Iv i]) q) w) (qb w a λj=>NN j λc=>qZ w c 5 λk=>NN k λd=>qZ w d 0 λl=>zX JC #[Pv l,Iv group] w λm n o f=>K (.tuple #[Iv m,Iv n,Iv o]) f)
def Ej(t:cg):=
 Al (.cells #[Pv t] 110) (λg w2=>qR yH #[] w2 λj k=>Al (.cells #[Pv none] 110) (λe l=>St e (Pv j) (λh=>qb h g λf=>ib P 22 (.func (.func oo) #[Pv f] #[]) #[10] (jO Go.Proofs.Tryz.f154.body) (jP Go.Proofs.Tryz.f154.body) .ret ((((((((iQ [Pv t] 0 .nil).put (some 1) (Pv (some g))).put (some 2) (Pv none)).put (some 7) (Pv j)).put (some 3) (Pv (some e))).put (some 8) (Pv f)).put (some 9) (.func (.func oo) #[Pv f] #[]))) h (λb a=>qb a e λi=>a.heap[b]?=some (.deferred (some []))/\K (Pv i) (a.putObj b (.deferred none))) (λc d=>d.heap[c]?=some (.deferred (some []))/\K (Pv none) (d.putObj c (.deferred none)))) l) k) w
def zd(n:cg)(level b:Int)(yield:Value):=
 qO 0 w λg a c=>cond (decide (a<16)) (0<=(4:Int)/\NN n λl=>∃k:Int,c.cell? (l.add 32)=some (.int .u16 k)/\0<=(u64.wrap a)/\cond ((bV .u16 (k.fdiv (2^(min (u64.wrap a).toNat 16))) 1)==0) ((([]:List Nat)= []/\(g (i64.wrap (a+1)) c))) (cond (decide (level<3)) (NN n λm=>cx (some (m.add 0)) 16 a 1 λa9=>qb c a9 λi=>qF yL #[Pv i,Iv (i64.wrap (level+1)),Iv (iG .i64 (i64.wrap (b*2^(min (4:Int).toNat 64))) a),yield] c λj d=>cond (!j) (K (.bool false) d) ((([]:List Nat)= []/\(g (i64.wrap (a+1)) d)))) (yd P none yield #[Iv (iG .i64 (i64.wrap (b*2^(min (4:Int).toNat 64))) a)] c λh e=>∃f,h=.returned (.bool f)/\cond (!f) (K (.bool false) e) ((([]:List Nat)= []/\(g (i64.wrap (a+1)) e)))))) (K (.bool true) c)
def azO(bH:Int):=
 cond (decide ((0:Int)<=bH)) (K (.bool (decide (bH<65536))) w) (K (.bool false) w)
def OI(bH level:Int):=
 0<=(u64.wrap (i64.wrap (4*(i64.wrap (3-level)))))/\K (Iv (bV .i64 (bH.fdiv (2^(min (u64.wrap (i64.wrap (4*(i64.wrap (3-level))))).toNat 64))) 15)) w
def OJ:=
 qC #[Iv 2,Iv 24,Iv 1,Iv 1] w λa w2=>K (.slice (some a) 4 4) w2
def OK(b c:Int)(d e:Bool):=
 Al (.cells #[Iv b,Iv c,.bool d,.bool e] 125) (λa w2=>qL w2 a 0 λj=>cond (j==0) (zn w2 a λk l m n=>∃f:Bool,jY P .eql 125 (.agg #[Iv k,Iv l,.bool m,.bool n]) (.agg #[Iv 0,Iv 0,.bool false,.bool false]) f/\cond f (K (.bool true) w2) (qL w2 a 0 λo=>cond (o==1) (K (.bool true) w2) (qL w2 a 0 λg=>K (.bool (g==2)) w2))) (qL w2 a 0 λh=>cond (h==1) (K (.bool true) w2) (qL w2 a 0 λi=>K (.bool (i==2)) w2))) w
def OL(l:Sl):=
 qI 0 0 w λv f e d=>cond (decide (e<((l.n:Nat):Int))) (qW l e 6 λx=>zR d x λy z h i j k=>zg d λb g=>qU [Iv y,Iv z,Iv h,Iv i,Iv j,.bool k] b g λc=>zR c b λm n o p q r=>qF De #[.agg #[Iv m,Iv n,Iv o,Iv p,Iv q,.bool r]] c λs a=>cond (!s) (K (.bool false) a) (qL a b 0 λt=>cond (decide (t<f)) (K (.bool false) a) (qL a b 1 λu=>(v u (i64.wrap (e+1)) a)))) (K (.bool true) d)
def OM(l m n o p:Int)(q:Bool):=
 zY #[Iv l,Iv m,Iv n,Iv o,Iv p,.bool q] w λb w2=>qg (λr=>qL w2 b 0 λs=>cond (decide (s<0)) (K (.bool false) w2) (qL w2 b 1 λt=>qL w2 b 0 λu=>cond (decide (t<=u)) (K (.bool false) w2) (qL w2 b 1 λv=>cond (decide (v>65536)) (K (.bool false) w2) (r w2)))) λa=>qL a b 2 λc=>cond (c==1) (qL a b 3 λd=>cond (d==0) (qL a b 4 λe=>K (.bool (e==0)) a) (K (.bool false) a)) (cond (c==2) (qL a b 3 λf=>cond (decide ((0:Int)<=f)) (qL a b 3 λg=>cond (decide (g<=1048576)) (qL a b 4 λh=>cond (decide ((0:Int)<=h)) (qL a b 4 λi=>qL a b 1 λj=>qL a b 0 λk=>K (.bool (decide (i<=(i64.wrap (2097152-(i64.wrap (j-k))))))) a) (K (.bool false) a)) (K (.bool false) a)) (K (.bool false) a)) (K (.bool false) a))
def ON(b c d e f:Int)(g:Bool)(a:Addr):=
 zY #[Iv b,Iv c,Iv d,Iv e,Iv f,.bool g] w λh w2=>qL w2 h 1 λi=>qL w2 a 0 λj=>K (.bool (decide (i>j))) w2
def Ek(n:cg)(bH level:Int):=
 qQ tH #[Iv bH,Iv level] w λb f=>qg (λg=>cond (decide (level<3)) (NN n λr=>cx (some (r.add 0)) 16 b 1 λs=>qb f s λu=>qE Dg #[Pv u,Iv bH,Iv (i64.wrap (level+1))] f λa=>NN n λh=>cx (some (h.add 0)) 16 b 1 λi=>qb a i λq=>NN q λj=>∃d:Int,a.cell? (j.add 32)=some (.int .u16 d)/\cond (d !=0) (K (.tuple #[]) a) (NN n λk=>cx (some (k.add 0)) 16 b 1 λl=>St l (Pv none) (λo=>g o) a)) (g f)) λt=>NN n λa20=>cx (some (a20.add 16)) 16 b 1 λm=>St m (.int .u64 0) (λc=>NN n λa23=>∃e:Int,c.cell? (a23.add 32)=some (.int .u16 e)/\0<=(u64.wrap b)/\NN n λa25=>St (a25.add 32) (.int .u16 (xF .u16 e (IntKind.u16.wrap (1*2^(min (u64.wrap b).toNat 16))))) (λp=>K (.tuple #[]) p) c) t
def OO(u v x y z:Int)(A:Bool)(b c:Int)(a:Addr):=
 zY #[Iv u,Iv v,Iv x,Iv y,Iv z,.bool A] w λB w2=>cond (decide (b<c)) (Dr (λj=>qc j a λk=>zR j B λC D E F G n=>zf JR #[.agg #[Iv C,Iv D,Iv E,Iv F,Iv G,.bool n],Iv b,Iv c] j λo p q r s t d=>∃g:Sl,d.cell? a=some (Sv g)/\((Sv g):Value)=(Sv k)/\zY #[Iv o,Iv p,Iv q,Iv r,Iv s,.bool t] d λl e=>∃h:Sl,e.cell? a=some (Sv h)/\((Sv h):Value)=(Sv k)/\∃i:Sl,∃f:World,Sem.run P (Builtin.append_ #[109,109] 109 #[Sv k,.slice (some l) 1 1]) e=.ok (Sv i) f/\St a (Sv i) (λm=>K (.tuple #[]) m) f) w2) (K (.tuple #[]) w2)
def OP(y z A B C:Int)(D:Bool)(b n:Int):=
 zY #[Iv y,Iv z,Iv A,Iv B,Iv C,.bool D] w λa w2=>zg w2 λg c=>qg (λf=>qL c a 2 λF=>cond (F==2) (qL c a 4 λG=>qL c a 0 λq=>St (a.add 4) (Iv (i64.wrap (G+(i64.wrap (b-q))))) (λo=>f o) c) (f c)) λE=>St (a.add 0) (Iv b) (λp=>St (a.add 1) (Iv n) (λd=>zR d a λr s t u v x=>qU [Iv r,Iv s,Iv t,Iv u,Iv v,.bool x] g d λe=>zR e g λh i j k l m=>K (.agg #[Iv h,Iv i,Iv j,Iv k,Iv l,.bool m]) e) p) E
def OQ(l:Sl)(bH:Int):=
 qC #[Iv bH] w λH w2=>zg w2 λa J=>qQ Df #[Sv l,(.func (.func J7) #[] #[Pv (some H)])] J λG x=>cond (decide (G<0)) (qU [Iv 0,Iv 0,Iv 0,Iv 0,Iv 0,.bool false] a x λy=>zR y a λI e f g h i=>K (.tuple #[.agg #[Iv I,Iv e,Iv f,Iv g,Iv h,.bool i],.bool false]) y) (qF yO #[Sv l] x λz b=>cond (!z) (qU [Iv 0,Iv 0,Iv 0,Iv 0,Iv 0,.bool false] a b λc=>zR c a λj k m n o p=>K (.tuple #[.agg #[Iv j,Iv k,Iv m,Iv n,Iv o,.bool p],.bool false]) c) (qW l G 6 λa25=>zR b a25 λA B C D E F=>qU [Iv A,Iv B,Iv C,Iv D,Iv E,.bool F] a b λd=>zR d a λq r s t u v=>K (.tuple #[.agg #[Iv q,Iv r,Iv s,Iv t,Iv u,.bool v],.bool true]) d))
def OR(group:Int)(c a:Addr):=
 Dr (λb=>qb b c λh=>NN h λa3=>qZ b a3 5 λi=>NN i λa5=>qZ b a5 0 λj=>qD b a λk=>qj Di #[Pv j,Iv k,Iv group] b λe f d=>qD d a λg=>K (.tuple #[Iv g,Iv e,Iv f]) d) w
def OS(c:cg)(target:Int):=
 Dr (λe=>NN c λI=>qZ e I 5 λJ=>NN J λa4=>qZ e a4 0 λL=>NN c λs=>qZ e s 5 λH=>NN c λn=>qZ e n 5 λo=>NN o λf=>qZ e f 0 λi=>qR tA #[Pv L] e λz d=>qG d f 0 (Pv i) λM=>qG d n 5 (Pv o) λN=>qG d s 5 (Pv H) λO=>qJ o1 #[Pv H] d λA g=>qG g f 0 (Pv i) λQ=>qG g n 5 (Pv o) λR=>qJ Ka #[Pv i] g λB t=>qJ J9 #[Pv z,Sv A,Iv target,Sv B] t λb u=>qO 0 u λp j a=>cond (decide (j<((b.n:Nat):Int))) (qW b j 1 λq=>qD a q λC=>NN c λa36=>qZ a a36 5 λD=>qE Cz #[Pv D,Iv C] a λv=>(p (i64.wrap (j+1)) v)) (NN c λa40=>qK a (a40.add 7) 2 λE=>∃m:Sl,∃k:World,Sem.run P (Builtin.append_ #[22,22] 22 #[Sv E,Sv b]) a=.ok (Sv m) k/\NN c λa44=>St ((a44.add 7).add 2) (Sv m) (λh=>cond (((b.n:Nat):Int)==0) (NN c λa46=>St ((a46.add 7).add 0) (Iv 12) (λx=>K (.bool false) x) h) (NN c λr=>qL h (r.add 0) 1 λF=>qF pW #[Sv b,Iv F] h λG l=>cond G (NN c λa53=>St ((a53.add 7).add 0) (Iv 13) (λy=>K (.bool false) y) l) (K (.bool true) l))) k)) w
def OT(s:cg)(bH e f:Int)(g h:Bool):=
 Al (.cells #[Iv e,Iv f,.bool g,.bool h] 125) (λi w2=>zm CL #[Pv s,Iv bH] w2 λA B C D E m n z=>zg z λj k=>qU [Iv A,Iv B,Iv C,Iv D,Iv E,.bool m] j k λb=>cond (!n) (K (Iv 14) b) (zn b i λo p q r=>zB Kb #[.agg #[Iv o,Iv p,.bool q,.bool r]] b λt u a=>qg (λd=>cond (u !=0) (K (Iv 1) a) (qL a i 0 λv=>cond (v==0) (K (Iv 1) a) (d a))) λc=>NN s λa27=>qZ c a27 1 λx=>qQ vB #[Pv x,Iv bH,.int .u64 t] c λy l=>K (Iv y) l)) w
def OU(x:Int):=
 zt CF #[.int .u64 x] w λf g h i j d=>zu d λb e=>qU [Iv f,Iv g,.bool h,.bool i] b e λa=>cond (j==0) (qL a b 0 λc=>K (.bool (c !=0)) a) (K (.bool false) a)
def OV(c d e f g:Int)(h:Bool)(a:Addr):=
 zY #[Iv c,Iv d,Iv e,Iv f,Iv g,.bool h] w λb w2=>qL w2 b 0 λi=>qD w2 a λj=>cond (decide (i<=j)) (qD w2 a λk=>qL w2 b 1 λl=>K (.bool (decide (k<l))) w2) (K (.bool false) w2)
def OW(t:cg)(l:Sl)(target:Int)(whole:Sl):=
 qJ tF #[Pv t,Iv target] w λL I=>qQ Kl #[Sv l,Sv L] I λo n=>cond (decide (o<0)) (K (.slice none 0 0) n) (qW l o 3 λH=>qL n H 0 λM=>qJ pV #[Pv t,Iv M] n λy J=>qQ Km #[Sv y,Iv target,Sv whole] J λk h=>cond (decide (k<0)) (qC #[Iv o] h λp r=>K (.slice (some p) 1 1) r) (qJ tF #[Pv t,Iv k] h λz s=>qf ⟨none,0,0⟩ 0 s λf a b e=>cond (decide (b<((l.n:Nat):Int))) (qW l b 3 λa26=>qa e a26 λA B C=>zz e λd u=>qU [Iv A,Iv B,.bool C] d u λc=>qh (λg=>qy c d 2 λE=>cond E (qL c d 0 λF=>qF pW #[Sv z,Iv F] c λG v=>g G v) (g false c)) λD i=>cond D (qC #[Iv b] i λq x=>∃m:Sl,∃j:World,Sem.run P (Builtin.append_ #[22,22] 22 #[Sv a,.slice (some q) 1 1]) x=.ok (Sv m) j/\(f m (i64.wrap (b+1)) j)) ((f a (i64.wrap (b+1)) i))) (K (Sv a) e)))
def OX(j k:Int)(l m:Bool):=
 Al (.cells #[Iv j,Iv k,.bool l,.bool m] 125) (λa w2=>zn w2 a λx y z A=>qF CZ #[.agg #[Iv x,Iv y,.bool z,.bool A]] w2 λB q=>cond (!B) (K (.tuple #[.int .u64 0,Iv 1]) q) (Dr (λh=>zn h a λd e i g=>qJ CY #[] h λr b=>za b a 3 (.bool g) λC=>za b a 2 (.bool i) λD=>zH b a 1 (Iv e) λE=>zH b a 0 (Iv d) λF=>qQ DL #[.bool i] b λs c=>za c a 3 (.bool g) λG=>zH c a 1 (Iv e) λH=>zH c a 0 (Iv d) λI=>qQ DL #[.bool g] c λt f=>zH f a 1 (Iv e) λJ=>zH f a 0 (Iv d) λL=>qC #[Iv d,Iv e,Iv s,Iv t] f λn o=>zB DK #[Sv r,.slice (some n) 4 4] o λu v p=>K (.tuple #[.int .u64 u,Iv v]) p) q)) w
def OY(l k:Sl):=
 Al (.cells #[Sv k] 22) (λx w2=>qC #[Iv 0] w2 λg y=>St g (Iv 0) (λz=>qI (-1) 0 z λi b a h=>cond (decide (a<((l.n:Nat):Int))) (qW l a 3 λj=>qa h j λo p q=>zz h λc m=>qU [Iv o,Iv p,.bool q] c m λd=>qa d c λr s t=>qF Wa #[.agg #[Iv r,Iv s,.bool t],Pv (some g),Pv (some x)] d λu e=>cond u (Dr (λf=>qL f c 1 λv=>St g (Iv v) (λn=>(i a (i64.wrap (a+1)) n)) f) e) ((i b (i64.wrap (a+1)) e))) (K (Iv b) h)) y) w
variable{K w}
def atV(c b a)(h:Oq K w c b a):=bL {} #[Pv (some c),Pv (some b),Pv (some a)] K w Tryz.func99 h
def arf(s)(h:Ot K w s):=bL (z8 [] [(1,[[0,1,2,3,5,6,7,8,4,9,10,11,12]],[4,9,11])]) #[Pv s] K w Tryz.func101 h
def OZ:dS:={}
def auI:Nat->Bool:=λd=>[].contains d
def auD(t:cg)(yield:Value)(K:bh7)(w:World):mV P fD gG cz OZ auI Go.Proofs.Tryz.f103 #[(.pointer t),yield] K w=Ei K w t yield:=by kernel_rfl
def at1:mW P OZ Go.Proofs.Tryz.f103 2=true:=by kernel_rfl
def atD(t:cg)(yield:Value){K:bh7}{w:World}(h:Ei K w t yield):Calls P oo #[(Pv t),yield] w (bW K):=oh mixed Go.Proofs.Tryz.func103 at1 (by rw[auD];exact h)
def atA(t bH)(h:Ou K w t bH):=bL {(z8 [16,27,28,42,43,44,45] [(7,[[0,1,2,4,5,3,6,7,8]],[3])] [(5,[(6,.ptr),(15,jZ)])]:dS)with head:=λr=>(bif r==12 then 17 else 0)} #[Pv t,Iv bH] K w Tryz.func106 h
def aye(x)(h:Ov K w x):=bL (z8 [14,24,25,27,28] [(4,[jQ 15],[13,14])]) #[.int .u64 x] K w Tryz.func107 h
def aCB(h:aCW K w):=bL {} #[] K w Tryz.func120 h
def atT(n)(h:aun K w n):=bL (z8 [4,7]) #[Iv n] K w Tryz.func130 h
def aA4(l a b c d e f)(h:Ow K w l a b c d e f):=bL {(z8 [17,18,24,26,29,30,39] [(8,[[0,1,2,3,4,7,8,9,5,6,10,11,12]],[5,6,10])] [] [(3,[]),(6,[(6,jZ)]),(8,[])]:dS)with head:=λr=>(bif r==6 then 14 else 0)} #[Sv l,.agg #[Iv a,Iv b,Iv c,Iv d,Iv e,.bool f]] K w Tryz.func131 h
def asr(t bH)(h:Ox K w t bH):=bL {} #[Pv t,Iv bH] K w Tryz.func134 h
def aA5(l a b)(h:Oy K w l a b):=bL (z8 [16,18,23,38,45,49] [] [(6,[(17,jZ)])]) #[Sv l,Iv a,Iv b] K w Tryz.func135 h
def arj(s bH)(h:Oz K w s bH):=bL {} #[Pv s,Iv bH] K w Tryz.func136 h
def aw2(c id)(h:OA K w c id):=bL {} #[Pv c,Iv id] K w Tryz.func137 h
def O0(c:cg)(gX:Value)(K:bh7)(w:World):Prop:=
 ∃(n:bh6) (M2:World->Nat),(Dr (λh=>NN c λH=>qZ h H 5 λJ=>NN J λI=>qK h I 1 λL=>NN c λp=>qL h (p.add 0) 1 λz=>qW L z 2 λq=>qL h q 0 λA=>eX P gX #[Iv A] h λu e=>∃j:Int,∃k:Int,∃b:Int,u=.returned (.tuple #[Iv j,Iv k,Iv b])/\cond (b==0) (K (.tuple #[Iv j,.bool true]) e) (cond (b !=12) (NN c λr=>St ((r.add 7).add 0) (Iv b) (λx=>K (.tuple #[Iv (-1),.bool false]) x) e) (qF yQ #[Pv c,Iv k] e λB i=>cond B (n i) (K (.tuple #[Iv (-1),.bool false]) i)))) w)/\∀M:Nat->Value,∀o:World,n o->Dr (λa=>NN c λa25=>qZ a a25 5 λC=>NN C λa27=>qK a a27 1 λD=>NN c λa29=>qL a (a29.add 0) 1 λE=>qW D E 2 λs=>qL a s 0 λF=>eX P gX #[Iv F] a λv f=>∃l:Int,∃m:Int,∃d:Int,v=.returned (.tuple #[Iv l,Iv m,Iv d])/\cond (d==0) (K (.tuple #[Iv l,.bool true]) f) (cond (d !=12) (NN c λt=>St ((t.add 7).add 0) (Iv d) (λy=>K (.tuple #[Iv (-1),.bool false]) y) f) (qF yQ #[Pv c,Iv m] f λG g=>cond G ((n g/\M2 g<M2 o)) (K (.tuple #[Iv (-1),.bool false]) g)))) o
def azG(c gX)(h:O0 c gX K w):=bL {(z8 [32,36] [(1,[jQ 24],[16])]:dS)with dyn:=λd=>[26].contains d,goto:=λl=>(bif l==0 then some []else none)} #[Pv c,gX] K w Tryz.func138 h
def atW(group c b a)(h:OB K w group c b a):=bL (z8 [] [(1,[[0,1,2,3,4,5,6,7,8,10,9,11,12,13,14,15,16,17]],[9,11])]) #[Iv group,Pv (some c),Pv (some b),Pv (some a)] K w Tryz.func139 h
def aA6(a b c d e f bH)(h:OD K w a b c d e f bH):=bL (z8 [7,13,16]) #[.agg #[Iv a,Iv b,Iv c,Iv d,Iv e,.bool f],Iv bH] K w Tryz.func141 h
def aw3(c bH id kind write)(h:OE K w c bH id kind write):=bL {} #[Pv c,Iv bH,Iv id,Iv kind,.bool write] K w Tryz.func142 h
def atC(t bH x)(h:OF K w t bH x):=bL (z8 [18,29,42,43,44,53,65,66,67] [(14,[jQ 19],[15,18])] [(5,[(7,.ptr),(17,jZ)])] [(10,[])]) #[Pv t,Iv bH,.int .u64 x] K w Tryz.func146 h
def azn(x)(h:OG K w x):=bL (z8 [6]) #[.int .u64 x] K w Tryz.func147 h
def aw4(group c b a)(h:OH K w group c b a):=bL (z8 [] [(2,[jQ 17],[10])]) #[Iv group,Pv (some c),Pv (some b),Pv (some a)] K w Tryz.func148 h
def tZ:dS:={}
def El:Nat->Bool:=λd=>[].contains d
def arK(t:cg)(K:bh7)(w:World):mV P fD gG cz tZ El Go.Proofs.Tryz.f154 #[(.pointer t)] K w=Ej K w t:=by kernel_rfl
def arl:mW P tZ Go.Proofs.Tryz.f154 1=true:=by kernel_rfl
def ard(t:cg){K:bh7}{w:World}(h:Ej K w t):Calls P CS #[(Pv t)] w (bW K):=oh mixed Go.Proofs.Tryz.func154 arl (by rw[arK];exact h)
def O1(i j:Addr)(c:Int)(d:Nat)(w:World)(R:Ending->bh6):Prop:=
 kU d (λa=>qb a i λf=>zh tC #[Pv f,Iv c] a λg k b=>qb b j λh=>qQ vB #[Pv h,Iv c,.int .u64 g] b λl e=>e0 d none R e) w
def ap7(t:cg)(c:Addr)(f:cg)(d:Addr)(e:cg)(a:Int)(b:Nat)(w:World)(R:Ending->bh6):ma P fD gG cz tZ El 22 b (jO Go.Proofs.Tryz.f154.body) (jP Go.Proofs.Tryz.f154.body) (kW [(10,.int .i64 a)] (((((((iQ [(.pointer t)] 0 .nil).put (some 1) (.pointer (some c))).put (some 2) (.pointer none)).put (some 7) (.pointer f)).put (some 3) (.pointer (some d))).put (some 8) (.pointer e)).put (some 9) (.func (.func oo) #[(.pointer e)] #[]))) w R=O1 c d a b w R:=by kernel_rfl
def ap6:gF P 22 tZ (jO Go.Proofs.Tryz.f154.body)=true/\gF P 22 tZ (jP Go.Proofs.Tryz.f154.body)=true:=⟨by kernel_rfl,by kernel_rfl⟩
def O2:dS:={quiet:=λd=>[12,15,17,24,25,26,27,30,38,48].contains d,loop:=λr=>(bif r==2 then[(11,.int .i64)]else[])}
def asE:Nat->Bool:=λd=>[46].contains d
def asD(n:cg)(level a:Int)(yield:Value)(K:bh7)(w:World):mV P fD gG cz O2 asE Go.Proofs.Tryz.f161 #[(.pointer n),(.int .i64 level),(.int .i64 a),yield] K w=zd K w n level a yield:=by kernel_rfl
def asy:mW P O2 Go.Proofs.Tryz.f161 4=true:=by kernel_rfl
def O3(n:cg)(level a:Int)(yield:Value){K:bh7}{w:World}(h:zd K w n level a yield):Calls P yL #[(Pv n),(Iv level),(Iv a),yield] w (bW K):=oh mixed Go.Proofs.Tryz.func161 asy (by rw[asD];exact h)
def azr(bH)(h:azO K w bH):=bL (z8 [4,7]) #[Iv bH] K w Tryz.func164 h
def azq(bH level)(h:OI K w bH level):=bL (z8 [7,8,9,10,11]) #[Iv bH,Iv level] K w Tryz.func165 h
def ayf(h:OJ K w):=bL {} #[] K w Tryz.func167 h
def azo(a b c d)(h:OK K w a b c d):=bL (z8 [5,9,14,19]) #[.agg #[Iv a,Iv b,.bool c,.bool d]] K w Tryz.func168 h
def ayl(l)(h:OL K w l):=bL (z8 [7,9,19,23] [] [(3,[(3,jZ),(8,jZ)])]) #[Sv l] K w Tryz.func196 h
def aym(a b c d e f)(h:OM K w a b c d e f):=bL (z8 [5,11,16,21,24,28,31,34,38,43,52,53,54] [] [] [(3,[])]) #[.agg #[Iv a,Iv b,Iv c,Iv d,Iv e,.bool f]] K w Tryz.func197 h
def ayj(b c d e f g a)(h:ON K w b c d e f g a):=bL (z8 [8]) #[.agg #[Iv b,Iv c,Iv d,Iv e,Iv f,.bool g],Pv (some a)] K w Tryz.func199 h
def O4(n bH level)(h:Ek K w n bH level):=bL (z8 [11,20,31,47,48,49] [] [] [(5,[])]) #[Pv n,Iv bH,Iv level] K w Tryz.func200 h
def ayk(d e f g i j a c b)(h:OO K w d e f g i j a c b):=bL (z8 [9] [(2,[jQ 8],[4,5,6,7])]) #[.agg #[Iv d,Iv e,Iv f,Iv g,Iv i,.bool j],Iv a,Iv c,Pv (some b)] K w Tryz.func201 h
def azt(c d e f g i a b)(h:OP K w c d e f g i a b):=bL (z8 [9,15,16] [] [] [(3,[])]) #[.agg #[Iv c,Iv d,Iv e,Iv f,Iv g,.bool i],Iv a,Iv b] K w Tryz.func202 h
def azs(l bH)(h:OQ K w l bH):=bL (z8 [11]) #[Sv l,Iv bH] K w Tryz.func203 h
def atQ(group b a)(h:OR K w group b a):=bL (z8 [] [(1,[jQ 15],[9])]) #[Iv group,Pv (some b),Pv (some a)] K w Tryz.func204 h
def ayv(c target)(h:OS K w c target):=bL (z8 [32,34,43,57,58] [(1,[[0,1,2,3,4,5,6,8,9,10,11,13,14,15,16,17,18,19,20,7,12,21,22,23]],[7,12,21,22])] [(3,[(33,jZ)])]) #[Pv c,Iv target] K w Tryz.func206 h
def atK(s bH a b c d)(h:OT K w s bH a b c d):=bL (z8 [25,29] [] [] [(7,[])]) #[Pv s,Iv bH,.agg #[Iv a,Iv b,.bool c,.bool d]] K w Tryz.func210 h
def aA2(x)(h:OU K w x):=bL (z8 [11,15]) #[.int .u64 x] K w Tryz.func212 h
def awV(b c d e f g a)(h:OV K w b c d e f g a):=bL (z8 [7,12]) #[.agg #[Iv b,Iv c,Iv d,Iv e,Iv f,.bool g],Pv (some a)] K w Tryz.func256 h
def aw0(t l target whole)(h:OW K w t l target whole):=bL (z8 [21,33,40,42,58] [] [(10,[(12,.slice),(41,jZ)])] [(13,[(53,.bool)])]) #[Pv t,Sv l,Iv target,Sv whole] K w Tryz.func260 h
def aA1(a b c d)(h:OX K w a b c d):=bL (z8 [] [(3,[[1,2,3,4,5,6,8,9,0,7,10,11,12,13,14,15,16]],[0,7,10,11,12])]) #[.agg #[Iv a,Iv b,.bool c,.bool d]] K w Tryz.func264 h
def azy(l a)(h:OY K w l a):=bL (z8 [12,14,24] [(7,[jQ 5],[4])] [(4,[(5,jZ),(13,jZ)])]) #[Sv l,Sv a] K w Tryz.func289 h
end Go.Mp
namespace Go.Mp
open Go Go.Vc Go.Proofs
variable{K:bh7}{w:World}
variable(K w)
def O5(chain:Sl)(target:Int)(whole:Sl):=
 Al (.cells #[Sv whole] 194) (λi w2=>qQ vG #[Sv chain,Iv target] w2 λk j=>qO k j λh i10 b=>cond (decide (i10≥0)) (qW chain i10 1 λc=>qD b c λe=>qF Wb #[Iv e,Pv (some i)] b λf a=>cond f (qW chain i10 1 λd=>qD a d λg=>K (Iv g) a) ((h (i64.wrap (i10-1)) a))) (K (Iv (-1)) b)) w
def aCV(b:Bool):=
 cond b (K (Iv 1) w) (K (Iv 0) w)
def O6(d e:Int)(f:Bool)(c a:Addr):=
 Al (.cells #[Iv d,Iv e,.bool f] 42) (λb w2=>qy w2 b 2 λi=>cond i (qL w2 b 1 λj=>qD w2 c λk=>cond (decide (j>k)) (qc w2 a λl=>qL w2 b 0 λm=>qF pW #[Sv l,Iv m] w2 λg h=>K (.bool g) h) (K (.bool false) w2)) (K (.bool false) w2)) w
def O7(g:Int)(a:Addr):=
 cond (decide ((0:Int)<=g)) (qc w a λb=>cond (decide (g<((b.n:Nat):Int))) (qc w a λc=>qW c g 1 λa3=>qm w a3 λd=>K (.bool d) w) (K (.bool false) w)) (K (.bool false) w)
variable{K w}
def ayq(chain target whole)(h:O5 K w chain target whole):=bL (z8 [16,18] [] [(4,[(9,jZ)])]) #[Sv chain,Iv target,Sv whole] K w Tryz.func290 h
def aCy(b)(h:aCV K w b):=bL {} #[.bool b] K w Tryz.func292 h
def aw1(c d e b a)(h:O6 K w c d e b a):=bL (z8 [11]) #[.agg #[Iv c,Iv d,.bool e],Pv (some b),Pv (some a)] K w Tryz.func304 h
def avI(g a)(h:O7 K w g a):=bL (z8 [5,9,10]) #[Iv g,Pv (some a)] K w Tryz.func305 h
end Go.Mp
namespace Go.Mp
open Go Go.Vc Go.Sp Go.Proofs Go.Kc Go.Kv
variable{E:Env}{L:ch}{w W:World}
def vR(i:Nat):bV .i64 (i:Int) 15=((i%16:Nat):Int):=by
 have h1:(BitVec.ofInt 64 (i:Int) &&& BitVec.ofInt 64 15).toNat=i%16:=by
  rw[uR,q6,q8];have:(BitVec.ofInt 64 15).toNat=15:=by decide
  rw[this];have a:=q5 (i%2^64) 4;rw[show(2:Nat)^4-1=15 by decide]at a;rw[a];omega
 show i64.wrap ((BitVec.ofInt 64 (i:Int) &&& BitVec.ofInt 64 15).toNat:Int)=_;rw[h1];exact cH bA bA
def nD{n:Nat}(h:n<65536):IntKind.u16.wrap (n:Int)=(n:Int):=by
 unfold IntKind.wrap;simp only[IntKind.signed,IntKind.bits,xz];rw[bJ bO];omega
def nE(i:Nat):bV .u16 (i:Int) 1=((i%2:Nat):Int):=by
 have h1:(BitVec.ofInt 16 (i:Int) &&& BitVec.ofInt 16 1).toNat=i%2:=by
  rw[uR,q6,q8];have:(BitVec.ofInt 16 1).toNat=1:=by decide
  rw[this];have a:=q5 (i%2^16) 1;rw[show(2:Nat)^1-1=1 by decide]at a;rw[a];omega
 show IntKind.u16.wrap ((BitVec.ofInt 16 (i:Int) &&& BitVec.ofInt 16 1).toNat:Int)=_;rw[h1];exact nD bA
def O8(bH:Int)(w:World):Calls P CW #[Iv bH] w (bW λv w'=>v=.bool (decide (0<=bH/\bH<65536))/\w'=w):=by
 apply azr;refine hN (λa=>⟨?_,rfl⟩) (λa=>⟨?_,rfl⟩);·exact eO Value.bool (pC.2 ⟨λe=>⟨a,e⟩,λe=>e.2⟩)
 ·exact eO Value.bool (c4 (λe=>bA)).symm
def ua{p l:Nat}(c:l<=3)(w:World):Calls P tH #[Iv (p:Nat),Iv (l:Nat)] w (bW λv w'=>v=Iv (p/16^(3-l)%16:Nat)/\w'=w):=by
 apply azq;have e:u64.wrap (i64.wrap (4*(i64.wrap (3-((l:Nat):Int)))))=((4*(3-l):Nat):Int):=by
  have:l=0\/l=1\/l=2\/l=3:=by omega
  rcases this with rfl|rfl|rfl|rfl<;>decide
 unfold OI;rw[e];refine⟨bA,?_,rfl⟩;have a:min ((((4*(3-l):Nat):Int)).toNat) 64=4*(3-l):=by omega
 rw[a,sh p (4*(3-l)),vR];have b:(2:Nat)^(4*(3-l))=16^(3-l):=by rw[Nat.pow_mul]
 rw[b]
def aHt{ks ws:List (Option Nat)}{h d:Nat}(c:ks.length=16)(a:d<16):(gn ks ws h)[d]?=some (.pointer ((ks.getD d none).map λb=>⟨b,0,none⟩)):=by
 unfold gn l9;rw[eE (by simp;omega),ew,dK,dL];rfl
def aFU{ks ws:List (Option Nat)}{h d:Nat}(a:ks.length=16)(hw:ws.length=16)(b:d<16):(gn ks ws h)[16+d]?=some (.int .u64 (((ws.getD d none).getD 0:Nat):Int)):=by
 unfold gn l9 mU;rw[fo (by simp;omega),eb,a,sF,eE (by simp;omega),ew,dK (l:=ws),dL];rfl
def o6{ks ws:List (Option Nat)}{h:Nat}(a:ks.length=16)(hw:ws.length=16):(gn ks ws h)[32]?=some (.int .u16 (h:Int)):=by
 unfold gn l9 mU;rw[fo (by simp;omega),eb,a,fo (by simp;omega),eb,hw];rfl
def ot:dB.length=16:=by simp[dB]
def gH{m:Nat}(t:RT (m+1))(d:Nat):Option (Nat×RT m):=List.getD (t:List (Option (Nat×RT m))) d none
def aL1{α:Type}(ks:List (Option (Nat×α)))(d:Nat):(ks.map (Option.map Prod.fst)).getD d none=(ks.getD d none).map Prod.fst:=by
 rw[dK,ew,dK];cases ks[d]? with
 |none=>rfl
 |some y=>cases y<;>rfl
def vS{m d:Nat}{t:RT (m+1)}(f:RT.ok (m+1) t)(c:d<16):(RT.vs (m+1) t)[d]?=some (.pointer ((gH t d).map λq=>⟨q.1,0,none⟩)):=by
 obtain⟨ks,rfl⟩:∃ks:List (Option (Nat×RT m)),ks=t:=⟨t,rfl⟩
 have e:ks.length=16:=f.1;have h1:(gn (ks.map (Option.map Prod.fst)) dB (hasB (ks.map Option.isSome)))[d]?=some (.pointer (((ks.map (Option.map Prod.fst)).getD d none).map λb=>⟨b,0,none⟩)):=aHt (by rw[eb];exact e) c;rw[aL1]at h1;have a:(((ks.getD d none).map Prod.fst).map λb=>(⟨b,0,none⟩:Addr))=(ks.getD d none).map λq=>⟨q.1,0,none⟩:=by cases ks.getD d none<;>rfl
 rw[a]at h1;exact h1
def nF{m:Nat}(t:RT (m+1))(p:Nat):RT.look (m+1) t p=match gH t (p/16^(m+1)%16)with|none=>none|some (_,s)=>RT.look m s p:=rfl
def zj{m d b:Nat}{t:RT (m+1)}{s:RT m}(c:RT.ok (m+1) t)(a:gH t d=some (b,s)):RT.ok m s:=c.2 d b s a
def aJa{m d b a:Nat}{t:RT (m+1)}{s:RT m}{M:ch}{w:World}(g:gH t d=some (a,s))(h:Sep E (dJ (m+1) b t++M) w):∃e,(∀w,Sep E (dJ (m+1) b t++M) w->Sep E (dJ m a s++e) w)/\Sep E (dJ m a s++e) w:=by
 obtain⟨ks,rfl⟩:∃ks:List (Option (Nat×RT m)),ks=t:=⟨t,rfl⟩
 have c:ks[d]?=some (some (a,s)):=by
  have h1:ks.getD d none=some (a,s):=g;rw[dK]at h1;cases f:ks[d]? with
  |none=>rw[f]at h1;cases h1
  |some y=>rw[f]at h1;exact eO some h1
 exact⟨_,λw h=>dJ.open c h,dJ.open c h⟩
def p3{m b j:Nat}{t:RT m}{M:ch}{w:World}(h:Sep E (dJ m b t++M) w):w.cell? ⟨b,j,none⟩=(RT.vs m t)[j]? :=by
 cases m with
 |zero=>exact(show Sep E (bE b (RT.vs 0 t)::M) w from h).cell j
 |succ m=>exact(show Sep E (bE b (RT.vs (m+1) t)::(List.flatMap (eZ m) (t:List (Option (Nat×RT m)))++M)) w from h).cell j
def aLm{t:RT 0}(b:RT.ok 0 t){p:Nat}:(RT.vs 0 t)[16+p%16]?=some (.int .u64 (((RT.look 0 t p).getD 0:Nat):Int))/\∃h:Nat,h<65536/\(RT.vs 0 t)[32]?=some (.int .u16 (h:Int))/\h/2^(p%16)%2=if(RT.look 0 t p).isSome then 1 else 0:=by
 obtain⟨ws,rfl⟩:∃ws:List (Option Nat),ws=t:=⟨t,rfl⟩
 have a:ws.length=16:=b;refine⟨aFU ot a (kx _ bO),hasB (ws.map Option.isSome),?_,o6 ot a,?_⟩
 ·have:=oZ (ws.map Option.isSome);rw[eb,a]at this;exact this
 ·rw[vt];have:(ws.map Option.isSome).getD (p%16) false=(ws.getD (p%16) none).isSome:=by
   rw[dK,ew,dK];cases ws[p%16]? with
   |none=>rfl
   |some y=>rfl
  rw[this];rfl
def h3(T:RT 3)(bH:Int):Option Nat:=if 0<=bH/\bH<65536 then RT.look 3 T bH.toNat else none
def Em{t:Nat}{T:RT 3}{bH:Int}(I:RT.ok 3 T)(h:Sep E (dJ 3 t T++L) w):Calls P tC #[Pb t,Iv bH] w
  (bW λv w'=>v=.tuple #[.int .u64 (((h3 T bH).getD 0:Nat):Int),.bool (h3 T bH).isSome]/\Sep E (dJ 3 t T++L) w'):=by
 apply atA;unfold Ou qF qQ qb zb;refine use (O8 bH w) ?_;rintro _ _ ⟨rfl,rfl⟩;refine⟨_,rfl,cw (λf=>?_) (λf=>?_)⟩
 ·have f:¬ (0<=bH/\bH<65536):=jo (by simpa only[hR]using f);unfold h3;rw[bJ f];exact⟨rfl,h⟩
 have f:0<=bH/\bH<65536:=by simpa using f
 have B:h3 T bH=RT.look 3 T bH.toNat:=by unfold h3;rw[bM f]
 obtain⟨p,rfl⟩:∃p:Nat,bH=p:=⟨bH.toNat,bA⟩
 rw[dk]at B;rw[B];refine⟨_,rfl,λn9 x w'=>∃(n b:Nat) (s:RT n) (M:ch),x=((3-n:Nat):Int)/\n<=3/\n9=some ⟨b,0,none⟩/\RT.ok n s/\RT.look n s p=RT.look 3 T p/\(∀w,Sep E (dJ 3 t T++L) w->Sep E (dJ n b s++M) w)/\Sep E (dJ 3 t T++L) w',
  λ_ x _=>(3-x).toNat,⟨3,t,T,L,rfl,dN _,by rw[cj],I,rfl,λ_ h=>h,h⟩,?_⟩
 rintro _ _ _ R ⟨n,b,s,M,rfl,W,rfl,z,a,u,h1⟩;refine cL (λV=>?_) (λU=>?_)
 ·obtain⟨m,rfl⟩:∃m,n=m+1:=⟨n-1,bA⟩
  refine Dr.i h1 (λw2 g=>⟨_,rfl,use (ua (p:=p) (l:=3-(m+1)) bA w2) ?_⟩);rintro _ _ ⟨rfl,rfl⟩;have K:3-(3-(m+1))=m+1:=by omega
  rw[K];obtain⟨d,G⟩:∃d,p/16^(m+1)%16=d:=⟨_,rfl⟩
  rw[G];have k:d<16:=by omega
  have O:=vS z k;have c:=nF s p;rw[G]at c;have i:=u _ g;have F:=p3 (j:=d) i;rw[O]at F;refine⟨_,rfl,_,rfl,⟨bA,bA⟩,?_⟩;rw[cj,cj,dk,show 0+0+d*1=d by omega];refine⟨_,F,?_⟩;cases o:gH s d with
  |none=>
   rw[o]at c;refine bT rfl ⟨?_,g⟩;rw[<- a,c];rfl
  |some y=>
   obtain⟨Q,s'⟩:=y;rw[o]at c;obtain⟨J,A,_⟩:=aJa o i;refine bF rfl ⟨⟨m,Q,s',J,?_,bA,rfl,zj z o,by rw[<- a,c],λw h=>A w (u w h),g⟩,?_⟩;·rw[c1];omega
   ·rw[c1];show((3:Int)-((3-(m+1)+1:Nat):Int)).toNat<((3:Int)-((3-(m+1):Nat):Int)).toNat;omega
 ·have H:n=0:=by omega
  subst H;refine use (ua (p:=p) (l:=3) bA R) ?_;rintro _ _ ⟨rfl,rfl⟩;obtain⟨hw,N,S,C,D⟩:=aLm z (p:=p);rw[show p/16^(3-3)%16=p%16 by rw[hG,Ba,Bd]];have k:p%16<16:=kx _ bO;refine⟨_,rfl,Dr.i h1 (λw2 g=>?_)⟩;have i:=u _ g;have q:=p3 (j:=16+p%16) i;have r:=p3 (j:=32) i;rw[hw]at q;rw[C]at r;refine⟨_,rfl,_,rfl,⟨bA,bA⟩,?_⟩;rw[cj,cj,dk,show 0+16+p%16*1=16+p%16 by omega];refine⟨_,q,_,rfl,_,by rw[cj,e5];exact r,?_,?_,g⟩;·rw[dj];omega
  ·have e:(bV .u16 ((N:Int).fdiv (2^(min (u64.wrap ((p%16:Nat):Int)).toNat 16))) 1 !=0)=(RT.look 3 T p).isSome:=by
    rw[dj,dk,show min (p%16) 16=p%16 by omega,sh,nE,D,a];cases(RT.look 3 T p).isSome<;>rfl
   rw[e,a]
def nG(n:Nat)(t a:RT n)(p x:Nat):Prop:=∀q,RT.look n a q=if q%16^(n+1)=p%16^(n+1)then some x else RT.look n t q
def gZ{m:Nat}(t:RT (m+1))(d:Nat)(k:Nat×RT m):RT (m+1):=List.set (t:List (Option (Nat×RT m))) d (some k)
def zp{m d e:Nat}{t:RT (m+1)}{k:Nat×RT m}(b:RT.ok (m+1) t)(c:d<16):gH (gZ t d k) e=if e=d then some k else gH t e:=by
 obtain⟨ks,rfl⟩:∃ks:List (Option (Nat×RT m)),ks=t:=⟨t,rfl⟩
 have f:ks.length=16:=b.1;show(ks.set d (some k)).getD e none=if e=d then some k else ks.getD e none
 rw[dK,jg,dK];by_cases h:d=e;·rw[bM h,eG,bM h.symm];rfl
 ·rw[bJ h,bJ (λa=>h a.symm)]
def Eo{m d:Nat}{t:RT (m+1)}{b:Nat}{s:RT m}(a:RT.ok (m+1) t)(f:d<16)(ho:RT.ok m s):RT.ok (m+1) (gZ t d (b,s)):=by
 have g:List.length (t:List (Option (Nat×RT m)))=16:=a.1;refine⟨by show(List.set (t:List (Option (Nat×RT m))) d (some (b,s))).length=16;exact dA.trans g,λi c e h=>?_⟩;have h:gH (gZ t d (b,s)) i=some (c,e):=h;rw[zp a f]at h;split at h;·cases h;exact ho
 ·exact a.2 i c e h
def Ep(p n:Nat):p/16^n%16=p%16^(n+1)/16^n:=by
 rw[m9,Nat.mod_mul_right_div_self]
def eK{p q n:Nat}:q%16^(n+1+1)=p%16^(n+1+1)↔q/16^(n+1)%16=p/16^(n+1)%16/\q%16^(n+1)=p%16^(n+1):=by
 have key:∀a:Nat,a%16^(n+1+1)=16^(n+1)*(a/16^(n+1)%16)+a%16^(n+1):=by
  intro a;rw[Ep a (n+1)];have h1:=Nat.div_add_mod (a%16^(n+1+1)) (16^(n+1));have b:a%16^(n+1+1)%16^(n+1)=a%16^(n+1):=Nat.mod_mod_of_dvd _ ⟨16,by rw[m9]⟩;rw[b]at h1;exact h1.symm
 constructor
 ·intro h;refine⟨by rw[Ep q (n+1),Ep p (n+1),h],?_⟩;have b:∀a:Nat,a%16^(n+1+1)%16^(n+1)=a%16^(n+1):=λa=>Nat.mod_mod_of_dvd _ ⟨16,by rw[m9]⟩;rw[<- b q,<- b p,h]
 ·rintro⟨h1,b⟩;rw[key q,key p,h1,b]
def nG.up{m d b p x:Nat}{t:RT (m+1)}{s s':RT m}(k:RT.ok (m+1) t)(j:p/16^(m+1)%16=d)(a:(∃i,gH t d=some (i,s))\/(gH t d=none/\s=RT.zero m))(h:nG m s s' p x):nG (m+1) t (gZ t d (b,s')) p x:=by
 have g:d<16:=by omega
 intro q;rw[nF,nF,zp k g];by_cases f:q/16^(m+1)%16=d
 ·rw[bM f];show RT.look m s' q=_;rw[h q];by_cases c:q%16^(m+1)=p%16^(m+1);·rw[bM c,bM (eK.2 ⟨bA,c⟩)]
  ·rw[bJ c,bJ (λe=>c (eK.1 e).2),f];rcases a with⟨i,a⟩|⟨a,rfl⟩
   ·rw[a]
   ·rw[a];exact RT.jl m q
 ·rw[bJ f,bJ (λe=>f (by rw[(eK.1 e).1];exact j))]
def rU(t:RT 0)(d x:Nat):RT 0:=List.set (t:List (Option Nat)) d (some x)
def nG.leaf{p x:Nat}{t:RT 0}(b:RT.ok 0 t):nG 0 t (rU t (p%16) x) p x:=by
 obtain⟨ws,rfl⟩:∃ws:List (Option Nat),ws=t:=⟨t,rfl⟩
 have c:ws.length=16:=b;intro q;show(ws.set (p%16) (some x)).getD (q%16) none=if q%16^1=p%16^1 then some x else ws.getD (q%16) none
 rw[Nat.pow_one,dK,jg,dK];have:=kx p (by decide:0<16);by_cases h:p%16=q%16;·rw[bM h,eG,bM h.symm];rfl
 ·rw[bJ h,bJ (λa=>h a.symm)]
def aLb{t:RT 0}{d x:Nat}(a:RT.ok 0 t):RT.ok 0 (rU t d x):=by
 show(List.set (t:List (Option Nat)) d (some x)).length=16;exact dA.trans a
def zr(l:List Bool)(i:Nat):(hasB l).testBit i=l.getD i false:=by
 rw[bd6,vt];cases l.getD i false<;>rfl
def O9(l:List Bool){d:Nat}(a:d<l.length):hasB l ||| 2^d=hasB (l.set d true):=by
 apply uK;intro i;rw[Nat.testBit_or,sI,zr,zr,dK,dK,jg];by_cases h:d=i;·subst h;simp[a]
 ·simp[h]
def vT{h d:Nat}(f:h<65536)(i:d<16):iG .u16 (h:Int) (IntKind.u16.wrap (1*2^(min (u64.wrap ((d:Nat):Int)).toNat 16)))=((h ||| 2^d:Nat):Int):=by
 have c:(2:Nat)^d<65536:=by
  have:(2:Nat)^d<=2^15:=uJ bO bA;omega
 have e:IntKind.u16.wrap (1*2^(min (u64.wrap ((d:Nat):Int)).toNat 16))=((2^d:Nat):Int):=by
  rw[dj,dk,show min d 16=d by omega,Int.one_mul];have:((2:Int)^d)=((2^d:Nat):Int):=by rw[Int.natCast_pow];rfl
  rw[this];exact nD c
 rw[e];show IntKind.u16.wrap ((BitVec.ofInt 16 (h:Int) ||| BitVec.ofInt 16 ((2^d:Nat):Int)).toNat:Int)=_;have b:∀a:Nat,a<65536->(BitVec.ofInt 16 (a:Int)).toNat=a:=λa g=>by
  rw[q6,q8];exact lQ bA
 rw[BitVec.toNat_or,b h f,b _ c];exact nD (Nat.or_lt_two_pow (n:=16) f c)
def aLn{m d b:Nat}{t:RT (m+1)}{s:RT m}(g:RT.ok (m+1) t)(f:d<16):∃h:Nat,h<65536/\(RT.vs (m+1) t)[32]?=some (.int .u16 (h:Int))/\
  ((RT.vs (m+1) t).set d (Pb b)).set 32 (.int .u16 ((h ||| 2^d:Nat):Int))=RT.vs (m+1) (gZ t d (b,s)):=by
 obtain⟨ks,rfl⟩:∃ks:List (Option (Nat×RT m)),ks=t:=⟨t,rfl⟩
 have e:ks.length=16:=g.1;have c:(ks.map Option.isSome).length=16:=by rw[eb];exact e
 refine⟨hasB (ks.map Option.isSome),?_,o6 (by rw[eb];exact e) ot,?_⟩
 ·have:=oZ (ks.map Option.isSome);rw[c]at this;exact this
 ·rw[O9 _ (by rw[c];exact f)];show((gn (ks.map (Option.map Prod.fst)) dB _).set d _).set 32 _=gn ((ks.set d (some (b,s))).map (Option.map Prod.fst)) dB (hasB ((ks.set d (some (b,s))).map Option.isSome));rw[hq,hq];rw[show Option.isSome (some (b,s))=true from rfl];generalize hasB ((ks.map Option.isSome).set d true)=H;unfold gn l9 mU;have a:((ks.map (Option.map Prod.fst)).map λk=>Value.pointer (k.map λb=>⟨b,0,none⟩)).length=16:=by simp[e]
  rw[sH _ _ (by rw[a];exact f),hq];rw[ik 32 _ (by rw[dA,a];decide),dA,a];rw[ik _ _ (by simp[dB])];congr 2
def aLo{d x:Nat}{t:RT 0}(g:RT.ok 0 t)(f:d<16):∃h:Nat,h<65536/\(RT.vs 0 t)[32]?=some (.int .u16 (h:Int))/\
  ((RT.vs 0 t).set (16+d) (.int .u64 (x:Int))).set 32 (.int .u16 ((h ||| 2^d:Nat):Int))=RT.vs 0 (rU t d x):=by
 obtain⟨ws,rfl⟩:∃ws:List (Option Nat),ws=t:=⟨t,rfl⟩
 have c:ws.length=16:=g;have e:(ws.map Option.isSome).length=16:=by rw[eb];exact c
 refine⟨hasB (ws.map Option.isSome),?_,o6 ot c,?_⟩
 ·have:=oZ (ws.map Option.isSome);rw[e]at this;exact this
 ·rw[O9 _ (by rw[e];exact f)];show((gn dB ws _).set (16+d) _).set 32 _=gn dB (ws.set d (some x)) (hasB ((ws.set d (some x)).map Option.isSome));rw[hq];rw[show Option.isSome (some x)=true from rfl];generalize hasB ((ws.map Option.isSome).set d true)=H;unfold gn l9 mU;have a:(dB.map λk=>Value.pointer (k.map λb=>⟨b,0,none⟩)).length=16:=by simp[dB]
  rw[ik (16+d) _ (by rw[a];omega),a,sF,sH d _ (by rw[eb,c];exact f)];rw[ik 32 _ (by rw[a];decide),a,ik _ _ (by rw[dA,eb,c];decide),dA,eb,c,hq];rfl
def aMg: [Value.pointer none,.pointer none,.pointer none,.pointer none,.pointer none,.pointer none,.pointer none,.pointer none,.pointer none,.pointer none,.pointer none,.pointer none,.pointer none,.pointer none,.pointer none,.pointer none,
  .int .u64 0,.int .u64 0,.int .u64 0,.int .u64 0,.int .u64 0,.int .u64 0,.int .u64 0,.int .u64 0,.int .u64 0,.int .u64 0,.int .u64 0,.int .u64 0,.int .u64 0,.int .u64 0,.int .u64 0,.int .u64 0,.int .u16 0]=gn dB dB 0:=by
 simp[gn,l9,mU,dB,List.replicate]
def Pa{m d b:Nat}{t:RT (m+1)}{s s':RT m}:RT.vs (m+1) (gZ t d (b,s))=RT.vs (m+1) (gZ t d (b,s')):=by
 obtain⟨ks,rfl⟩:∃ks:List (Option (Nat×RT m)),ks=t:=⟨t,rfl⟩
 show gn ((ks.set d (some (b,s))).map (Option.map Prod.fst)) dB (hasB ((ks.set d (some (b,s))).map Option.isSome))=gn ((ks.set d (some (b,s'))).map (Option.map Prod.fst)) dB (hasB ((ks.set d (some (b,s'))).map Option.isSome));rw[hq,hq,hq,hq];simp only[jh,GZ]
def Pc(n:Nat): [Value.pointer none,.pointer none,.pointer none,.pointer none,.pointer none,.pointer none,.pointer none,.pointer none,.pointer none,.pointer none,.pointer none,.pointer none,.pointer none,.pointer none,.pointer none,.pointer none,
  .int .u64 0,.int .u64 0,.int .u64 0,.int .u64 0,.int .u64 0,.int .u64 0,.int .u64 0,.int .u64 0,.int .u64 0,.int .u64 0,.int .u64 0,.int .u64 0,.int .u64 0,.int .u64 0,.int .u64 0,.int .u64 0,.int .u16 0]=RT.vs n (RT.zero n):=by
 have h1:RT.vs n (RT.zero n)=gn dB dB 0:=by
  cases n with
  |zero=>
   show gn dB (List.replicate 16 none) (hasB (List.map Option.isSome (List.replicate 16 (none:Option Nat))))=_;rw[T5,show hasB (List.replicate 16 (Option.isSome (none:Option Nat)))=0 by simp[hasB,List.replicate]];rfl
  |succ n=>
   show gn (List.map (Option.map Prod.fst) (List.replicate 16 (none:Option (Nat×RT n)))) dB (hasB (List.map Option.isSome (List.replicate 16 (none:Option (Nat×RT n)))))=_;rw[T5,T5,show hasB (List.replicate 16 (Option.isSome (none:Option (Nat×RT n))))=0 by simp[hasB,List.replicate],show List.replicate 16 (Option.map Prod.fst (none:Option (Nat×RT n)))=dB from rfl]
 rw[h1];exact aMg
def Pd(n b:Nat):dJ n b (RT.zero n)= [bE b (RT.vs n (RT.zero n))]:=by
 cases n with
 |zero=>rfl
 |succ n=>
  show bE b _::List.flatMap (eZ n) (List.replicate 16 none)=_;have:List.flatMap (eZ n) (List.replicate 16 none)= []:=by
   rw[List.flatMap_eq_nil_iff];intro x hx;rw[(T6.1 hx).2];rfl
  rw[this]
def Pe{m d b a:Nat}{t:RT (m+1)}{s:RT m}{w:World}(c:RT.ok (m+1) t)(e:d<16)(h:Sep E (dJ m a s++(bE b (RT.vs (m+1) (gZ t d (a,s)))::(jN m (t:List (Option (Nat×RT m))) d++L))) w):Sep E (dJ (m+1) b (gZ t d (a,s))++L) w:=
 dJ.shut (ks:=(t:List (Option (Nat×RT m)))) (by have:List.length (t:List (Option (Nat×RT m)))=16:=c.1;omega) h
def Pf{m d b:Nat}{t:RT (m+1)}{w:World}(c:RT.ok (m+1) t)(e:d<16)(h:Sep E (dJ (m+1) b t++L) w):
  Sep E (bE b (RT.vs (m+1) t)::((eZ m (gH t d))++(jN m (t:List (Option (Nat×RT m))) d++L))) w:=by
 obtain⟨ks,rfl⟩:∃ks:List (Option (Nat×RT m)),ks=t:=⟨t,rfl⟩
 have f:ks.length=16:=c.1;have a:ks[d]?=some (gH ks d):=by
  have:gH ks d=ks.getD d none:=rfl;rw[this,dK,dL];rfl
 have h1:Sep E (bE b (RT.vs (m+1) ks)::(List.flatMap (eZ m) ks++L)) w:=h;rw[tq a]at h1;refine h1.perm (List.Perm.cons _ ?_);unfold jN;generalize List.flatMap (eZ m) (ks.take d)=A;generalize List.flatMap (eZ m) (ks.drop (d+1))=B;generalize eZ m (gH ks d)=C;simp only[dc];have h1:=sG (B++L) (lO (l₁:=A) (l₂:=C));rwa[dc,dc]at h1
def aLS{t x:Nat}{T:RT 3}{bH:Int}(X:RT.ok 3 T)(h:Sep E (dJ 3 t T++L) w):Calls P vB #[Pb t,Iv bH,.int .u64 (x:Int)] w
  (bW λv w'=>(¬ (0<=bH/\bH<65536)/\v=Iv 1/\Sep E (dJ 3 t T++L) w')\/((0<=bH/\bH<65536)/\v=Iv 0/\∃T':RT 3,RT.ok 3 T'/\nG 3 T T' bH.toNat x/\Sep E (dJ 3 t T'++L) w')):=by
 apply atC;unfold OF qF qQ qb qg zb;refine use (O8 bH w) ?_;rintro _ _ ⟨rfl,rfl⟩;refine⟨_,rfl,cw (λq=>?_) (λq=>?_)⟩
 ·have q:¬ (0<=bH/\bH<65536):=jo (by simpa only[hR]using q);exact .inl ⟨q,rfl,h⟩
 have q:0<=bH/\bH<65536:=by simpa using q
 obtain⟨p,rfl⟩:∃p:Nat,bH=p:=⟨bH.toNat,bA⟩
 rw[dk];obtain⟨G,Q⟩:∃G:bh6,G= λw'=>∃T':RT 3,RT.ok 3 T'/\nG 3 T T' p x/\Sep E (dJ 3 t T'++L) w':=⟨_,rfl⟩
 have fin:∀w',G w'->(¬ (0<=(p:Int)/\(p:Int)<65536)/\(Value.int .i64 0=Iv 1)/\Sep E (dJ 3 t T++L) w')\/((0<=(p:Int)/\(p:Int)<65536)/\Value.int .i64 0=Iv 0/\∃T':RT 3,RT.ok 3 T'/\nG 3 T T' p x/\Sep E (dJ 3 t T'++L) w'):=by
  intro w' V;rw[Q]at V;exact .inr ⟨q,rfl,V⟩
 refine⟨_,rfl,λn9 y w'=>∃(n b:Nat) (s:RT n) (M:ch),y=((3-n:Nat):Int)/\n<=3/\n9=some ⟨b,0,none⟩/\RT.ok n s/\(∀s' u,RT.ok n s'->nG n s s' p x->Sep E (dJ n b s'++M) u->G u)/\Sep E (dJ n b s++M) w',
  λ_ y _=>(3-y).toNat,⟨3,t,T,L,rfl,dN _,by rw[cj],X,λs' u h1 g k=>by rw[Q];exact⟨s',h1,g,k⟩,h⟩,?_⟩
 rintro _ _ _ u ⟨n,b,s,M,rfl,ad,rfl,c,H,h1⟩;refine cL (λab=>?_) (λaa=>?_)
 ·obtain⟨m,rfl⟩:∃m,n=m+1:=⟨n-1,bA⟩
  refine use (ua (p:=p) (l:=3-(m+1)) bA u) ?_;rintro _ _ ⟨rfl,rfl⟩;have Z:3-(3-(m+1))=m+1:=by omega
  rw[Z];obtain⟨d,U⟩:∃d,p/16^(m+1)%16=d:=⟨_,rfl⟩
  rw[U];have a:d<16:=by omega
  have N:=vS c a;have R:=p3 (j:=d) h1;rw[N]at R;have o:=Pf c a h1;have hlen:(RT.vs (m+1) s).length=33:=by
   obtain⟨ks,rfl⟩:∃ks:List (Option (Nat×RT m)),ks=s:=⟨s,rfl⟩
   have K:ks.length=16:=c.1;show(gn (ks.map (Option.map Prod.fst)) dB _).length=33;simp[gn,l9,mU,dB,K]
  refine⟨_,rfl,λw'=>∃(f:Nat) (s1:RT m),RT.ok m s1/\((∃Y,gH s d=some (Y,s1))\/(gH s d=none/\s1=RT.zero m))/\
   Sep E (bE b ((RT.vs (m+1) s).set d (Pb f))::(dJ m f s1++(jN m (s:List (Option (Nat×RT m))) d++M))) w',?_,?_⟩
  ·refine⟨_,rfl,_,rfl,⟨bA,bA⟩,?_⟩;rw[cj,cj,dk,show 0+0+d*1=d by omega];refine⟨_,R,?_⟩;cases r:gH s d with
   |none=>
    rw[r]at o;refine bT rfl (Al.i o (λf w2 g=>⟨_,rfl,_,rfl,⟨bA,bA⟩,?_⟩));rw[cj,cj,dk,show 0+0+d*1=d by omega];refine St.i g.swap (by rw[hlen];omega) (λO k=>⟨f,RT.zero m,RT.lD m,.inr ⟨rfl,rfl⟩,?_⟩);rw[Pd,<- Pc];exact k
   |some y=>
    obtain⟨f,s1⟩:=y;rw[r]at o;refine bF rfl ⟨f,s1,zj c r,.inl ⟨f,rfl⟩,?_⟩;have:(RT.vs (m+1) s).set d (Pb f)=RT.vs (m+1) s:=by
     rw[r]at N;apply g6;intro i;rw[jg];split;·next e=>subst e;rw[N,bM (by rw[hlen];omega)];rfl
     ·rfl
    rw[this];exact o
  rintro _ w2 ⟨f,s1,I,r,g⟩;obtain⟨J,z,A,B⟩:=aLn (b:=f) (s:=s1) c a;have C:w2.cell? ⟨b,32,none⟩=some (.int .u16 (J:Int)):=by
   rw[g.cell 32,h4 bA,A]
  refine⟨_,rfl,_,by rw[cj,e5];exact C,by rw[dj];omega,_,rfl,?_⟩;dsimp only;rw[cj,e5,vT z a];refine St.i g (by rw[dA,hlen];omega) (λO k=>?_);rw[B]at k;have S:O.cell? ⟨b,d,none⟩=some (Pb f):=by
   rw[k.cell d,vS (Eo c a I) a,zp c a,bM rfl];rfl
  refine⟨_,rfl,_,rfl,⟨bA,bA⟩,?_⟩;rw[cj,cj,dk,show 0+0+d*1=d by omega];refine⟨_,S,⟨m,f,s1,bE b (RT.vs (m+1) (gZ s d (f,s1)))::(jN m (s:List (Option (Nat×RT m))) d++M),?_,bA,rfl,I,?_,?_⟩,?_⟩;·rw[c1];omega
  ·intro s' F ho hu D;refine H (gZ s d (f,s')) F (Eo c a ho) (nG.up c U r hu) (Pe c a ?_);rw[Pa (s:=s') (s':=s1)];exact D
  ·exact k.perm il.symm
  ·rw[c1];show((3:Int)-((3-(m+1)+1:Nat):Int)).toNat<((3:Int)-((3-(m+1):Nat):Int)).toNat;omega
 ·have W:n=0:=by omega
  subst W;refine use (ua (p:=p) (l:=3) bA u) ?_;rintro _ _ ⟨rfl,rfl⟩;rw[show p/16^(3-3)%16=p%16 by rw[hG,Ba,Bd]];have a:p%16<16:=kx _ bO;refine⟨_,rfl,Dr.i h1 (λw2 g=>?_)⟩;have g:Sep E (bE b (RT.vs 0 s)::M) w2:=g;have hlen:(RT.vs 0 s).length=33:=by
   obtain⟨ws,rfl⟩:∃ws:List (Option Nat),ws=s:=⟨s,rfl⟩
   have K:ws.length=16:=c;show(gn dB ws _).length=33;simp[gn,l9,mU,dB,K]
  obtain⟨J,z,A,B⟩:=aLo (x:=x) c a;have C:w2.cell? ⟨b,32,none⟩=some (.int .u16 (J:Int)):=by rw[g.cell 32,A]
  refine⟨_,rfl,_,by rw[cj,e5];exact C,by rw[dj];omega,_,rfl,_,rfl,⟨bA,bA⟩,?_⟩;rw[cj,cj,dk,show 0+16+p%16*1=16+p%16 by omega];refine St.i g (by rw[hlen];omega) (λO k=>⟨rfl,_,rfl,?_⟩);dsimp only;rw[cj,e5,vT z a];refine St.i k (by rw[dA,hlen];omega) (λF D=>fin F ?_);rw[B]at D;exact H _ F (aLb c) (nG.leaf c) D
def aFH(h:Sep E L w):Calls P yH #[] w (bW λv w'=>∃t:Nat,v=Pb t/\Sep E (dJ 3 t (RT.zero 3)++L) w'):=by
 apply aCB;refine Al.i h (λt a h1=>⟨t,rfl,?_⟩);rw[Pd,<- Pc];exact h1
def lG(n:Nat)(t a:RT n)(p:Nat):Prop:=∀q,RT.look n a q=if q%16^(n+1)=p%16^(n+1)then none else RT.look n t q
def jC{m:Nat}(t:RT (m+1))(d:Nat):RT (m+1):=List.set (t:List (Option (Nat×RT m))) d none
def o7(t:RT 0)(d:Nat):RT 0:=List.set (t:List (Option Nat)) d none
def Ph{m d e:Nat}{t:RT (m+1)}(b:RT.ok (m+1) t)(c:d<16):gH (jC t d) e=if e=d then none else gH t e:=by
 obtain⟨ks,rfl⟩:∃ks:List (Option (Nat×RT m)),ks=t:=⟨t,rfl⟩
 have f:ks.length=16:=b.1;show(ks.set d none).getD e none=if e=d then none else ks.getD e none
 rw[dK,jg,dK];by_cases h:d=e;·rw[bM h,eG,bM h.symm];rfl
 ·rw[bJ h,bJ (λa=>h a.symm)]
def aKS{m d:Nat}{t:RT (m+1)}(a:RT.ok (m+1) t)(e:d<16):RT.ok (m+1) (jC t d):=by
 have f:List.length (t:List (Option (Nat×RT m)))=16:=a.1;refine⟨by show(List.set (t:List (Option (Nat×RT m))) d none).length=16;exact dA.trans f,λi b c h=>?_⟩;have h:gH (jC t d) i=some (b,c):=h;rw[Ph a e]at h;split at h;·cases h
 ·exact a.2 i b c h
def aKT{t:RT 0}{d:Nat}(a:RT.ok 0 t):RT.ok 0 (o7 t d):=by
 show(List.set (t:List (Option Nat)) d none).length=16;exact dA.trans a
def lG.leaf{p:Nat}{t:RT 0}(b:RT.ok 0 t):lG 0 t (o7 t (p%16)) p:=by
 obtain⟨ws,rfl⟩:∃ws:List (Option Nat),ws=t:=⟨t,rfl⟩
 have c:ws.length=16:=b;intro q;show(ws.set (p%16) none).getD (q%16) none=if q%16^1=p%16^1 then none else ws.getD (q%16) none
 rw[Nat.pow_one,dK,jg,dK];have:=kx p (by decide:0<16);by_cases h:p%16=q%16;·rw[bM h,eG,bM h.symm];rfl
 ·rw[bJ h,bJ (λa=>h a.symm)]
def lG.up{m d b b0 p:Nat}{t:RT (m+1)}{s s':RT m}(j:RT.ok (m+1) t)(g:p/16^(m+1)%16=d)(i:gH t d=some (b0,s))(h:lG m s s' p):lG (m+1) t (gZ t d (b,s')) p:=by
 have f:d<16:=by omega
 intro q;rw[nF,nF,zp j f];by_cases c:q/16^(m+1)%16=d
 ·rw[bM c];show RT.look m s' q=_;rw[h q];by_cases a:q%16^(m+1)=p%16^(m+1);·rw[bM a,bM (eK.2 ⟨bA,a⟩)]
  ·rw[bJ a,bJ (λe=>a (eK.1 e).2),c,i]
 ·rw[bJ c,bJ (λe=>c (by rw[(eK.1 e).1];exact g))]
def lG.gone{m d b0 p:Nat}{t:RT (m+1)}{s s':RT m}(j:RT.ok (m+1) t)(g:p/16^(m+1)%16=d)(i:gH t d=some (b0,s))(h:lG m s s' p)(f:∀q,RT.look m s' q=none):lG (m+1) t (jC t d) p:=by
 have c:d<16:=by omega
 intro q;rw[nF,nF,Ph j c];by_cases a:q/16^(m+1)%16=d
 ·rw[bM a];have h1:=h q;rw[f q]at h1;by_cases b:q%16^(m+1)=p%16^(m+1);·rw[bM (eK.2 ⟨bA,b⟩)]
  ·rw[bJ b]at h1;rw[bJ (λe=>b (eK.1 e).2),a,i];exact h1
 ·rw[bJ a,bJ (λe=>a (by rw[(eK.1 e).1];exact g))]
def aI8(l:List Bool){d:Nat}(b:l.length<=16):(BitVec.ofInt 16 (hasB l:Int) &&& ~~~ BitVec.ofInt 16 ((2^d:Nat):Int)).toNat=hasB (l.set d false):=by
 apply uK;intro i;rw[zr,uR,Hc,BitVec.testBit_toNat,BitVec.testBit_toNat,BitVec.getLsbD_not,q6,q6,BitVec.getLsbD_ofNat,BitVec.getLsbD_ofNat,zr,sI,dK,dK,jg];by_cases a:i<16
 ·by_cases h:d=i;·subst h;simp[a];split<;>simp
  ·simp[h,a]
 ·rw[c4 a,fH bA];simp;split;·split<;>simp
  ·rfl
def vU{l:List Bool}{d:Nat}(b:l.length=16)(c:d<16):xF .u16 (hasB l:Int) (IntKind.u16.wrap (1*2^(min (u64.wrap ((d:Nat):Int)).toNat 16)))=(hasB (l.set d false):Int):=by
 have a:(2:Nat)^d<65536:=by
  have:(2:Nat)^d<=2^15:=uJ bO bA;omega
 have e:IntKind.u16.wrap (1*2^(min (u64.wrap ((d:Nat):Int)).toNat 16))=((2^d:Nat):Int):=by
  rw[dj,dk,show min d 16=d by omega,Int.one_mul];have:((2:Int)^d)=((2^d:Nat):Int):=by rw[Int.natCast_pow];rfl
  rw[this];exact nD a
 rw[e];show IntKind.u16.wrap ((BitVec.ofInt 16 (hasB l:Int) &&& ~~~ BitVec.ofInt 16 ((2^d:Nat):Int)).toNat:Int)=_;rw[aI8 l bA];have:=oZ (l.set d false);rw[dA,b]at this;exact nD this
def aLk{m d:Nat}{t:RT (m+1)}(g:RT.ok (m+1) t)(f:d<16):∃l:List Bool,l.length=16/\(RT.vs (m+1) t)[32]?=some (.int .u16 (hasB l:Int))/\
  (((RT.vs (m+1) t).set d (.pointer none)).set (16+d) (.int .u64 0)).set 32 (.int .u16 (hasB (l.set d false):Int))=RT.vs (m+1) (jC t d):=by
 obtain⟨ks,rfl⟩:∃ks:List (Option (Nat×RT m)),ks=t:=⟨t,rfl⟩
 have c:ks.length=16:=g.1;refine⟨ks.map Option.isSome,by rw[eb];exact c,o6 (by rw[eb];exact c) ot,?_⟩;show(((gn (ks.map (Option.map Prod.fst)) dB _).set d _).set (16+d) _).set 32 _=gn ((ks.set d none).map (Option.map Prod.fst)) dB (hasB ((ks.set d none).map Option.isSome));rw[hq,hq];rw[show Option.isSome (none:Option (Nat×RT m))=false from rfl];generalize hasB ((ks.map Option.isSome).set d false)=H;unfold gn l9 mU;have a:((ks.map (Option.map Prod.fst)).map λk=>Value.pointer (k.map λb=>⟨b,0,none⟩)).length=16:=by simp[c]
 rw[sH _ _ (by rw[a];exact f),hq];rw[ik (16+d) _ (by rw[dA,a];omega),dA,a,sF];rw[sH d _ (by simp[dB];omega)];have e:(dB.map λx=>Value.int .u64 ((x.getD 0:Nat):Int)).set d (.int .u64 0)=dB.map λx=>Value.int .u64 ((x.getD 0:Nat):Int):=by
  rw[show(dB.map λx=>Value.int .u64 ((x.getD 0:Nat):Int))=List.replicate 16 (Value.int .u64 0) by simp[dB]];exact List.set_replicate_self
 rw[e];rw[ik 32 _ (by rw[dA,a];decide),dA,a];rw[ik _ _ (by simp[dB])];congr 2
def aLl{d:Nat}{t:RT 0}(f:RT.ok 0 t)(e:d<16):∃l:List Bool,l.length=16/\(RT.vs 0 t)[32]?=some (.int .u16 (hasB l:Int))/\
  ((RT.vs 0 t).set (16+d) (.int .u64 0)).set 32 (.int .u16 (hasB (l.set d false):Int))=RT.vs 0 (o7 t d):=by
 obtain⟨ws,rfl⟩:∃ws:List (Option Nat),ws=t:=⟨t,rfl⟩
 have c:ws.length=16:=f;refine⟨ws.map Option.isSome,by rw[eb];exact c,o6 ot c,?_⟩;show((gn dB ws _).set (16+d) _).set 32 _=gn dB (ws.set d none) (hasB ((ws.set d none).map Option.isSome));rw[hq];rw[show Option.isSome (none:Option Nat)=false from rfl];generalize hasB ((ws.map Option.isSome).set d false)=H;unfold gn l9 mU;have a:(dB.map λk=>Value.pointer (k.map λb=>⟨b,0,none⟩)).length=16:=by simp[dB]
 rw[ik (16+d) _ (by rw[a];omega),a,sF,sH d _ (by rw[eb,c];exact e)];rw[ik 32 _ (by rw[a];decide),a,ik _ _ (by rw[dA,eb,c];decide),dA,eb,c,hq];rfl
def Pj{m:Nat}{t:RT m}(b:RT.ok m t):(RT.vs m t).length=33:=by
 cases m with
 |zero=>
  obtain⟨ws,rfl⟩:∃ws:List (Option Nat),ws=t:=⟨t,rfl⟩
  have a:ws.length=16:=b;show(gn dB ws _).length=33;simp[gn,l9,mU,dB,a]
 |succ m=>
  obtain⟨ks,rfl⟩:∃ks:List (Option (Nat×RT m)),ks=t:=⟨t,rfl⟩
  have a:ks.length=16:=b.1;show(gn (ks.map (Option.map Prod.fst)) dB _).length=33;simp[gn,l9,mU,dB,a]
def Er:∀ {l:List Bool},hasB l=0->∀i,l.getD i false=false
 |[],_,_=>by simp
 |b::r,h,i=>by
  simp only[hasB]at h;cases b with
  |true=>simp at h
  |false=>
   have:=Er (l:=r) (by simp at h;omega);cases i with
   |zero=>rfl
   |succ i=>exact this i
def aMe{m:Nat}{t:RT m}(d:RT.ok m t):∃h:Nat,h<65536/\(RT.vs m t)[32]?=some (.int .u16 (h:Int))/\(h=0->∀q,RT.look m t q=none):=by
 cases m with
 |zero=>
  obtain⟨ws,rfl⟩:∃ws:List (Option Nat),ws=t:=⟨t,rfl⟩
  have b:ws.length=16:=d;have a:=oZ (ws.map Option.isSome);rw[eb,b]at a;refine⟨hasB (ws.map Option.isSome),a,o6 ot b,λh q=>?_⟩;have h1:=Er h (q%16);show ws.getD (q%16) none=none;rw[dK,ew]at h1;rw[dK];cases c:ws[q%16]? with
  |none=>rfl
  |some y=>rw[c]at h1;cases y with
   |none=>rfl
   |some z=>cases h1
 |succ m=>
  obtain⟨ks,rfl⟩:∃ks:List (Option (Nat×RT m)),ks=t:=⟨t,rfl⟩
  have b:ks.length=16:=d.1;have a:=oZ (ks.map Option.isSome);rw[eb,b]at a;refine⟨hasB (ks.map Option.isSome),a,o6 (by rw[eb];exact b) ot,λh q=>?_⟩;have h1:=Er h (q/16^(m+1)%16);refine(nF (show RT (m+1)from ks) q).trans ?_;have e:gH (show RT (m+1)from ks) (q/16^(m+1)%16)=ks.getD (q/16^(m+1)%16) none:=rfl;rw[dK,ew]at h1;rw[e,dK];cases c:ks[q/16^(m+1)%16]? with
  |none=>rfl
  |some y=>rw[c]at h1;cases y with
   |none=>rfl
   |some z=>cases h1
def aKb{m b d:Nat}{t:RT (m+1)}{w:World}(f:RT.ok (m+1) t)(g:d<16)(h:Sep E (bE b (RT.vs (m+1) (jC t d))::(jN m (t:List (Option (Nat×RT m))) d++L)) w):Sep E (dJ (m+1) b (jC t d)++L) w:=by
 obtain⟨ks,rfl⟩:∃ks:List (Option (Nat×RT m)),ks=t:=⟨t,rfl⟩
 have i:ks.length=16:=f.1;have e:(ks.set d none)[d]?=some none:=iM bA;have a:(ks.set d none).take d=ks.take d:=by rw[T0 (dN d)]
 have c:(ks.set d none).drop (d+1)=ks.drop (d+1):=by rw[T1 bA]
 show Sep E (bE b (RT.vs (m+1) (jC ks d))::(List.flatMap (eZ m) (ks.set d none)++L)) w;rw[tq e,a,c];exact h
def Pk:∀(m:Nat) {b p:Nat} {t:RT m} {L:ch} {w:World},m<=3->RT.ok m t->(RT.look m t p).isSome=true->Sep E (dJ m b t++L) w->
  Calls P Dg #[Pb b,Iv (p:Nat),Iv ((3-m:Nat):Int)] w (bW λv w'=>v=.tuple #[]/\∃J:RT m,RT.ok m J/\lG m t J p/\Sep E (dJ m b J++L) w')
 |0,b,p,t,L,w,_,c,_,h=>by
  apply O4;unfold Ek qE qQ qb qg;refine use (ua (p:=p) (l:=3) bA w) ?_;rintro _ _ ⟨rfl,rfl⟩;have a:p%16<16:=kx _ bO;rw[show p/16^(3-3)%16=p%16 by rw[hG,Ba,Bd]];refine⟨_,rfl,λw'=>Sep E (dJ 0 b t++L) w',bF rfl h,?_⟩;rintro _ C h1;have h1:Sep E (bE b (RT.vs 0 t)::L) C:=h1;have hlen:=Pj c;obtain⟨l,H,z,A⟩:=aLl c a;refine⟨_,rfl,_,rfl,⟨bA,bA⟩,?_⟩;rw[cj,cj,dk,show 0+16+p%16*1=16+p%16 by omega];refine St.i h1 (by rw[hlen];omega) (λw2 n=>⟨_,rfl,?_⟩);have x:w2.cell? ⟨b,32,none⟩=some (.int .u16 (hasB l:Int)):=by rw[n.cell 32,h4 bA,z]
  refine⟨_,by rw[cj,e5];exact x,by rw[dj];omega,_,rfl,?_⟩;dsimp only;rw[cj,e5,vU H a];refine St.i n (by rw[dA,hlen];omega) (λW o=>⟨rfl,o7 t (p%16),aKT c,lG.leaf c,?_⟩);rw[A]at o;exact o
 |m+1,b,p,t,L,w,hm,c,hp,h=>by
  apply O4;unfold Ek qE qQ qb qg;refine use (ua (p:=p) (l:=3-(m+1)) bA w) ?_;rintro _ _ ⟨rfl,rfl⟩;have Q:3-(3-(m+1))=m+1:=by omega
  rw[Q];obtain⟨d,B⟩:∃d,p/16^(m+1)%16=d:=⟨_,rfl⟩
  rw[B];have a:d<16:=by omega
  have u:=nF t p;rw[B]at u;cases k:gH t d with
  |none=>rw[u,k]at hp;cases hp
  |some y=>
  obtain⟨f,s⟩:=y;rw[k]at u;rw[u]at hp;have O:=zj c k;have I:=vS c a;rw[k]at I;have r:=Pf c a h;rw[k]at r;have hlen:=Pj c;obtain⟨l,H,z,A⟩:=aLk c a;refine⟨_,rfl,λw'=>∃s',lG m s s' p/\(∀q,RT.look m s' q=none)/\Sep E (bE b ((RT.vs (m+1) t).set d (.pointer none))::(jN m (t:List (Option (Nat×RT m))) d++L)) w',bT (by rw[gj];omega) ?_,?_⟩
  ·refine⟨_,rfl,_,rfl,⟨bA,bA⟩,?_⟩;rw[cj,cj,dk,show 0+0+d*1=d by omega];refine⟨some ⟨f,0,none⟩,by rw[r.cell d,I];rfl,?_⟩;have K:=r.perm (L':=dJ m f s++(bE b (RT.vs (m+1) t)::(jN m (t:List (Option (Nat×RT m))) d++L))) il.symm;have R:i64.wrap (((3-(m+1):Nat):Int)+1)=((3-m:Nat):Int):=by rw[c1];omega
   rw[R];refine use (Pk m (b:=f) (p:=p) (t:=s) bA O hp K) ?_;rintro _ C ⟨rfl,s',G,g,h1⟩;have D:Sep E (bE b (RT.vs (m+1) t)::(dJ m f s'++(jN m (t:List (Option (Nat×RT m))) d++L))) C:=h1.perm il;refine⟨rfl,_,rfl,_,rfl,⟨bA,bA⟩,?_⟩;rw[cj,cj,dk,show 0+0+d*1=d by omega];refine⟨some ⟨f,0,none⟩,by rw[D.cell d,I];rfl,_,rfl,?_⟩;obtain⟨Z,X,M,N⟩:=aMe G;have x:=p3 (j:=32) h1;rw[M]at x;refine⟨_,by rw[cj,e5];exact x,gV (λY=>?_) (λhe=>?_)⟩
   ·refine⟨rfl,gZ t d (f,s'),Eo c a G,lG.up c B k g,Pe c a ?_⟩;have S:RT.vs (m+1) (gZ t d (f,s'))=RT.vs (m+1) t:=by
     rw[Pa (s':=s)];have T:gZ t d (f,s)=t:=by
      obtain⟨ks,rfl⟩:∃ks:List (Option (Nat×RT m)),ks=t:=⟨t,rfl⟩
      show ks.set d (some (f,s))=ks;have F:ks.getD d none=some (f,s):=k;apply g6;intro i;rw[jg];split
      ·next e=>
       subst e;have V:ks.length=16:=c.1;rw[eG];rw[dK,dL]at F;rw[dL];exact eO some F.symm
      ·rfl
     rw[T]
    rw[S];exact h1
   ·refine⟨_,rfl,_,rfl,⟨bA,bA⟩,?_⟩;rw[cj,cj,dk,show 0+0+d*1=d by omega];refine St.i D (by rw[hlen];omega) (λw2 n=>⟨s',g,N bA,?_⟩);have o:=n.perm (L':=dJ m f s'++(bE b ((RT.vs (m+1) t).set d (.pointer none))::(jN m (t:List (Option (Nat×RT m))) d++L))) il.symm;exact(o.perm lO).left
  ·rintro _ C ⟨s',g,U,h1⟩;refine⟨_,rfl,_,rfl,⟨bA,bA⟩,?_⟩;rw[cj,cj,dk,show 0+16+d*1=16+d by omega];refine St.i h1 (by rw[dA,hlen];omega) (λw2 n=>⟨_,rfl,?_⟩);have x:w2.cell? ⟨b,32,none⟩=some (.int .u16 (hasB l:Int)):=by rw[n.cell 32,h4 bA,h4 bA,z]
   refine⟨_,by rw[cj,e5];exact x,by rw[dj];omega,_,rfl,?_⟩;dsimp only;rw[cj,e5,vU H a];refine St.i n (by rw[dA,dA,hlen];omega) (λW o=>⟨rfl,jC t d,aKS c a,lG.gone c B k g U,?_⟩);rw[A]at o;exact aKb c a o
def aKK{t p:Nat}{T:RT 3}(a:RT.ok 3 T)(hp:p<65536)(f:(RT.look 3 T p).isSome=true)(h:Sep E (dJ 3 t T++L) w):Calls P CK #[Pb t,Iv (p:Nat)] w
  (bW λv w'=>v=.bool true/\∃T':RT 3,RT.ok 3 T'/\lG 3 T T' p/\Sep E (dJ 3 t T'++L) w'):=by
 apply asr;unfold Ox qE zh;refine use (Em a h) ?_;rintro _ m ⟨rfl,h1⟩;have e:h3 T (p:Int)=RT.look 3 T p:=by unfold h3;rw[eG,dk]
 have c:(!(h3 T (p:Int)).isSome)=false:=by rw[e,f];rfl
 generalize h3 T (p:Int)=g at c;refine⟨_,_,rfl,bF c ⟨_,rfl,?_⟩⟩;dsimp only;rw[cj];have d:=Pk 3 (b:=t) (p:=p) (t:=T) bA a f h1;have i:((3-3:Nat):Int)=0:=rfl;rw[i]at d;refine use d ?_;rintro _ w2 ⟨rfl,T',j,k,l⟩;exact⟨rfl,rfl,T',j,k,l⟩
end Go.Mp
namespace Go.Kt
open Go
def G.vs(g:G):List Value:=[Iv g.up,.bool g.live]
def G.kD(g:G):g.vs.length=2:=rfl
end Go.Kt
namespace Go.Mp
open Go Go.Vc Go.Sp Go.Proofs Go.Kt
variable{E:Env}{L:ch}{w W:World}
def dT(b:Nat)(l:List G):Asn:=e8 λs:Sl=>cC (s.n=l.length) (star (bE b [Sv s]) (bC s 2 (bQ G.vs l)))
def dT.get{b:Nat}{l:List G}(h:Sep E (dT b l::L) w):∃s:Sl,s.n=l.length/\Sep E (bE b [Sv s]::bC s 2 (bQ G.vs l)::L) w:=by
 obtain⟨s,h⟩:=Sep.ex.1 h;obtain⟨a,h⟩:=Sep.cC.1 h;exact⟨s,a,Sep.star.1 h⟩
def dT.mk{b:Nat}{l:List G}{s:Sl}(a:s.n=l.length)(h:Sep E (bE b [Sv s]::bC s 2 (bQ G.vs l)::L) w):Sep E (dT b l::L) w:=
 Sep.ex.2 ⟨s,Sep.cC.2 ⟨a,Sep.star.2 h⟩⟩
def ub{s:Sl}{l:List G}{i:Int}{f:Addr->Prop}(q:Nat)(h:Sep E L w)(e:L[q]?=some (bC s 2 (bQ G.vs l)))(n:s.n=l.length){k:Nat}(d:i=k){x:G}(hx:l[k]?=some x)(g:∀b,s.p=some ⟨b,0,none⟩->(∀j,j<2->w.cell? ⟨b,k*2+j,none⟩=(x.vs)[j]?)->f ⟨b,k*2,none⟩):cx s.p s.n i 2 f:=by
 have m:=(cT.1 hx).1;subst d;refine bC.el q h e bA bA (λb hp a=>?_);rw[dk]at a ⊢;exact g b hp (λj c=>by rw[a j c,tR G.kD hx j c])
def ke{b:Nat}{l:List G}{g:Int}{q:Nat}(h:Sep E L w)(e:L[q]?=some (dT b l)):Calls P jR #[Pb b,Iv g] w (bW λv w'=>v=.bool (dw l g)/\w'=w):=by
 apply Wz;unfold Lf qK qW qy;obtain⟨s,d,h1⟩:=dT.get (h.fr q e);refine hN (λa=>?_) (λa=>?_)
 ·refine⟨_,rfl,s,h1.cell 0,?_⟩;refine cL (λi=>?_) (λf=>?_)
  ·obtain⟨n,rfl⟩:∃n:Nat,g=n:=⟨g.toNat,bA⟩
   obtain⟨x,hx⟩:∃x,l[n]?=some x:=⟨_,dL⟩
   refine⟨_,rfl,s,h1.cell 0,ub 1 h1 rfl d rfl hx (λj _ c=>⟨x.live,?_,?_,rfl⟩)⟩;·rw[cj];exact c 1 bO
   ·unfold dw;rw[dk,hx,dh bA];rfl
  ·refine⟨?_,rfl⟩;unfold dw;rw[fH bA];simp
 ·refine⟨?_,rfl⟩;unfold dw;rw[c4 bA];rfl
def aIG{b:Nat}{l:List G}{g:Int}{q:Nat}(h:Sep E L w)(d:L[q]?=some (dT b l)):Calls P Jn #[Pb b,Iv g] w (bW λv w'=>v=Iv (lT l g)/\w'=w):=by
 apply WY;unfold Lr qF qK qL qW;refine use (ke h d) ?_;rintro _ k ⟨rfl,rfl⟩;refine⟨_,rfl,cw (λa=>⟨?_,rfl⟩) (λa=>?_)⟩
 ·have:dw l g=false:=by simpa using a
  unfold lT;rw[this];rfl
 ·have c:dw l g=true:=by simpa using a
  obtain⟨n,rfl,x,hx,i⟩:=iE.1 c;obtain⟨s,f,h1⟩:=dT.get (h.fr q d);refine⟨_,rfl,s,h1.cell 0,ub 1 h1 rfl f rfl hx (λj _ e=>⟨x.up,?_,?_,rfl⟩)⟩;·rw[cj];exact e 0 bO
  ·unfold lT;rw[bM c,dk,hx];rfl
def Pl{l:List G}{g:Nat}(a:dw l g=true):c8 l g=(chain l g).map Int.ofNat:=by unfold c8;rw[bM a,dk]
def Pm{b d c:Nat}{l:List G}{g:Int}(hw:WF l):D9 P E tD #[Pb d,Pb c]
  (star (bE d [Pb b]) (star (bE c [Iv g]) (dT b l))) (star (bE d [Pb b]) (star (e8 λx:Int=>bE c [Iv x]) (dT b l))) ((c8 l g).map (Value.int .i64)):=by
 intro aa J X Q L W h;refine Calls.mono (R:=bW λv j=>v=.tuple #[]/\(Sep E (J ((c8 l g).map (Value.int .i64)).length::star (bE d [Pb b]) (star (e8 λx:Int=>bE c [Iv x]) (dT b l))::L) j\/
  ∃k,k<((c8 l g).map (Value.int .i64)).length/\Sep E (X k::star (bE d [Pb b]) (star (e8 λx:Int=>bE c [Iv x]) (dT b l))::L) j)) ?_ (λe j he=>?_)
 rotate_left
 ·obtain⟨v,rfl,rfl,he⟩:=he;exact⟨⟨_,rfl⟩,he⟩
 have pack:∀ {A:Asn} {x:Int} {j:World},Sep E (A::bE d [Pb b]::bE c [Iv x]::dT b l::L) j->
   Sep E (A::star (bE d [Pb b]) (star (e8 λx:Int=>bE c [Iv x]) (dT b l))::L) j:=by
  intro A x j u;have h1:Sep E (e8 (λx:Int=>bE c [Iv x])::dT b l::A::bE d [Pb b]::L) j:=Sep.ex.2 ⟨x,u.ro 4 [2,3,0,1] rfl⟩;have i:=(Sep.star.2 h1).ro 3 [2,0,1] rfl;exact(Sep.star.2 i).swap
 have h1:Sep E (bE d [Pb b]::bE c [Iv g]::dT b l::J 0::L) W:=by
  have i:=Sep.star.1 h.swap;have t:=(Sep.star.1 (i.swap))
  exact t.ro 4 [2,0,1,3] rfl
 show Calls P tD #[.func (.yield aa) #[] #[],Pb d,Pb c] W _;apply WV;unfold DV qD qF qK qL qW qb qd;refine⟨_,h1.cell 0,_,h1.cellAt 1 rfl 0,?_⟩;refine use (ke (q:=2) h1 rfl) ?_;rintro _ ak ⟨rfl,rfl⟩;refine⟨_,rfl,?_⟩;rw[eb];cases F:dw l g with
 |false=>
  refine⟨λw'=>w'=ak,λ_=>0,rfl,?_⟩;rintro _ w2 rfl;refine dH ⟨rfl,.inl ?_⟩;have:c8 l g= []:=by unfold c8;rw[F];rfl
  rw[this];exact pack (h1.ro 4 [3,0,1,2] rfl)
 |true=>
  obtain⟨n,rfl,x,hx,am⟩:=iE.1 F;have V:=(cT.1 hx).1;rw[Pl F];rw[eb];rw[Pl F]at Q;refine⟨λw'=>∃(k:Nat) (x:Int),((x= -1/\k=(chain l n).length)\/∃m:Nat,x=m/\m<l.length/\(chain l n).drop k=chain l m)/\Sep E (bE d [Pb b]::bE c [Iv x]::dT b l::J k::L) w',
   λw'=>match w'.cell? ⟨c,0,none⟩with|some (.int _ x)=>(x+1).toNat|_=>0,⟨0,n,.inr ⟨n,rfl,V,rfl⟩,h1⟩,?_⟩
  rintro _ w2 ⟨k,x,Z,i⟩;refine eC ⟨x,i.cellAt 1 rfl 0,?_⟩;rcases Z with⟨rfl,rfl⟩|⟨m,rfl,hm,D⟩
  ·refine hk (λu=>absurd u bO) (λ_=>⟨rfl,.inl (pack (i.ro 4 [3,0,1,2] rfl))⟩)
  ·refine hk (λ_=>?_) (λu=>absurd u bA);refine⟨_,i.cellAt 1 rfl 0,aa,rfl,?_⟩;obtain⟨r,H⟩:=Hp l m;have T:(chain l n)[k]?=some m:=by
    have:((chain l n).drop k)[0]?=some m:=by rw[D,H];rfl
    rwa[py,lu]at this
   have U:(((chain l n).map Int.ofNat).map (Value.int .i64))[k]?=some (Iv (m:Int)):=by
    rw[ew,ew,T];rfl
   obtain⟨fn,tmps,N,body,K,w⟩:=Q _ k _ _ U (i.ro 4 [3,0,1,2] rfl);refine⟨fn,tmps,N,body,K,w.mono λe al he=>?_⟩;rcases he with⟨rfl,t⟩|⟨rfl,t⟩
   ·refine⟨true,rfl,dH ?_⟩;have t:Sep E (bE d [Pb b]::bE c [Iv (m:Int)]::dT b l::J (k+1)::L) al:=t.ro 4 [1,2,3,0] rfl;refine Dr.i t (λz B=>?_);obtain⟨s,ai,O⟩:=dT.get (B.fr 2 rfl);obtain⟨y,p⟩:∃y,l[m]?=some y:=⟨_,dD hm⟩
    have fin:∀ {w':World},w'=z->St ⟨c,0,none⟩ (Iv y.up) (λI=>(([]:List Nat)= []/\((∃(k:Nat) (x:Int),((x= -1/\k=(chain l n).length)\/∃m:Nat,x=m/\m<l.length/\(chain l n).drop k=chain l m)/\Sep E (bE d [Pb b]::bE c [Iv x]::dT b l::J k::L) I)/\
      (match I.cell? ⟨c,0,none⟩with|some (.int _ x)=>(x+1).toNat|_=>0)<(match w2.cell? ⟨c,0,none⟩with|some (.int _ x)=>(x+1).toNat|_=>0)))) w':=by
     rintro _ rfl;refine St.i (B.fr 1 rfl) (by show 0<1;decide) (λab C=>?_);have C:Sep E (bE c [Iv y.up]::bE d [Pb b]::dT b l::J (k+1)::L) ab:=C;have ae:ab.cell? ⟨c,0,none⟩=some (Iv y.up):=C.cell 0;have af:w2.cell? ⟨c,0,none⟩=some (Iv (m:Int)):=i.cellAt 1 rfl 0;rw[ae,af];have S:(chain l n).drop (k+1)=r:=by rw[<- n0,D,H];rfl
     refine⟨rfl,⟨k+1,y.up,?_,C.swap⟩,?_⟩
     ·rcases lq m with o|o
      ·subst o;rw[hw.root]at p;have:=cQ p;subst this;rw[uX]at H D;refine .inl ⟨rfl,?_⟩;have:=eO List.length D;rw[nY]at this;simp at this;omega
      ·have hu:=hw.up m y p o;have Y:=sQ hw p o;refine .inr ⟨y.up.toNat,bA,bA,?_⟩;rw[S];rw[H]at Y;exact(List.cons.inj Y).2
     ·rcases lq m with o|o
      ·subst o;rw[hw.root]at p;have:=cQ p;subst this;decide
      ·have hu:=hw.up m y p o;show(y.up+1).toNat<((m:Int)+1).toNat;omega
    have M:z.cell? ⟨d,0,none⟩=some (Pb b):=B.cell 0;have a3:z.cell? ⟨c,0,none⟩=some (Iv (m:Int)):=B.cellAt 1 rfl 0;have ad:z.cell? (Addr.add ⟨b,0,none⟩ 0)=some (Sv s):=by rw[cj];exact O.cell 0
    have el:∀ {f:Addr->Prop},(∀a,z.cell? (a.add 0)=some (Iv y.up)->f a)->cx s.p s.n (m:Int) 2 f:=λaj=>ub 1 O rfl ai rfl p (λan _ ah=>aj _ (by rw[cj];exact ah 0 bO));repeat' first
     |exact trivial
     |exact fin rfl
     |exact⟨_,M,?_⟩
     |refine⟨_,M,?_⟩
     |refine⟨_,a3,?_⟩
     |refine⟨s,ad,?_⟩
     |refine⟨_,rfl,?_⟩
     |refine el (λa ag=>?_)
     |refine⟨_,ag,?_⟩
     |refine And.intro ?_ ?_
   ·refine⟨false,rfl,eC ⟨rfl,.inr ⟨k,?_,?_⟩⟩⟩;·exact(cT.1 T).1
    ·exact pack t
def zv:g9 P jB=some (8,1,[Iv 0]):=by kernel_rfl
def rV{s:Sl}{q:Nat}{l:bU}{x:Int}(b:s.n=l.length)(k:l.length<100000000)(h:Sep E (bE q [Iv x]::bC s 1 (bD l)::L) w){G:Sl->bh6}(g:∀s' a,s'.n=(l++[x]).length->Sep E (bC s' 1 (bD (l++[x]))::L) a->G s' a):
  ∃f:Sl,∃a,Sem.run P (Builtin.append_ #[jB,jB] jB #[Sv s,.slice (some ⟨q,0,none⟩) 1 1]) w=.ok (Sv f) a/\G f a:=by
 have j:=Src.bE (n:=1) (c:=1) h (i:=0) rfl zv rfl (λu hu=>by simp at hu;rw[hu];rfl);have e:bD (l++[x])=bD l++[Iv x]:=by simp[bD]
 refine bC.append h.swap zv rfl j bA (by rw[b];omega) (λs' a d h1=>?_);refine g s' a (by rw[d,b];simp) ?_;rw[e];exact(h1.fr 0 rfl).ro 2 [0] rfl
def Pn{f:FuncId}{fi ca:Array Value}{u:Value->Array Value}{A A':Asn}{xs:bU}(has:∀y,u y=fi++ #[y]++ca)(hf:ky P f=true)(H:y8 P E f u A A' (xs.map (Value.int .i64)))(O:xs.length<1000000)(h:Sep E (A::L) w):
  Calls P yC #[.func (.func f) fi ca] w (bW λv w'=>∃s:Sl,v=Sv s/\s.n=xs.length/\Sep E (bC s 1 (bD xs)::A'::L) w'):=by
 apply Ws;unfold K8 qJ;refine use (K:=λv w'=>∃s:Sl,v=Sv s/\s.n=xs.length/\Sep E (bC s 1 (bD xs)::A'::L) w') ?_ ?_;rotate_left
 ·rintro _ F ⟨s,rfl,c,h1⟩;exact⟨s,rfl,s,rfl,c,h1⟩
 apply WO ⟨none,0,0⟩;unfold DU qc;refine Al.i h (λp F h1=>?_);have h1:Sep E (e8 (λs:Sl=>cC (s.n=0) (star (bE p [Sv s]) (bC s 1 (bD []))))::A::L) F:=
  Sep.ex.2 ⟨⟨none,0,0⟩,Sep.cC.2 ⟨rfl,Sep.star.2 (bC.none_ (m:=1) h1).swap⟩⟩
 refine ib.iO has (τ:=fD) (ρ:=gG) (cz:=cz) (An:=tL) (yl:=DW) mixed bO bO WR hf H
  (λk=>e8 λs:Sl=>cC (s.n=(xs.take k).length) (star (bE p [Sv s]) (bC s 1 (bD (xs.take k))))) (λ_=>cC False emp) ?_ h1 ?_ ?_
 ·intro l r L' k x W R g j hx d B _;obtain⟨y,t,rfl⟩:∃y,xs[k]?=some y/\x=Iv y:=by
   rw[ew]at hx;cases C:xs[k]? with
   |none=>rw[C]at hx;cases hx
   |some y=>rw[C]at hx;exact⟨y,rfl,(cQ hx).symm⟩
  have N:=(cT.1 t).1;refine(WQ ⟨none,0,0⟩ _ ⟨p,0,none⟩ y l W R).mpr ?_;unfold LY qC qc;refine kU.i d g (λw2 a=>?_);obtain⟨s,a⟩:=Sep.ex.1 a.swap;obtain⟨c,a⟩:=Sep.cC.1 a;have a:=Sep.star.1 a;refine⟨s,a.cell 0,Al.i a (λq I i=>?_)⟩;have n:Sep E (bE q [Iv y]::bC s 1 (bD (xs.take k))::bE p [Sv s]::c2 l (.loop {r with state:=.busy})::L') I:=i.ro 4 [0,2,1,3] rfl;refine rV c (by rw[g7];omega) n (λs' Q D G=>?_);refine St.i G.swap (by show 0<1;decide) (λJ o=>?_);have o:Sep E (bE p [.slice s'.p s'.n s'.c]::bC s' 1 (bD (xs.take k++[y]))::c2 l (.loop {r with state:=.busy})::L') J:=o;refine e0.i (o.ro 3 [2,0,1] rfl) (λM z=>?_);have e:({ {r with state:=.busy} with state:=if(none:Option Code).isNone then .ready else .done,pending:=none} :Loop)=r:=by
   cases r;simp only at g j;subst g j;rfl
  rw[e]at z;refine B M (Sep.swap (Sep.ex.2 ⟨s',Sep.cC.2 ⟨?_,?_⟩⟩));·rw[D,mA,t];rfl
  ·rw[mA,t];exact Sep.star.2 (z.ro 3 [1,2,0] rfl)
 ·intro b W d;obtain⟨s,a⟩:=Sep.ex.1 d.swap;obtain⟨c,a⟩:=Sep.cC.1 a;have a:=Sep.star.1 a;rw[eb,fN]at c a;have i:Sep E (c2 b (.deferred (some []))::bC s 1 (bD xs)::bE p [Sv s]::A'::L) W:=a.ro 3 [2,1,0] rfl;have n:=(i.putObj (o':=.deferred none)).tail;exact⟨s,a.cell 0,i.dp,s,rfl,c,n.ro 2 [0] rfl⟩
 ·intro b k W _ d;exact(Sep.cC.1 d.swap).1.elim
def aGC{f:FuncId}{ca:Array Value}{A A':Asn}{xs:bU}(hf:ky P f=true)(b:D9 P E f ca A A' (xs.map (Value.int .i64)))(a:xs.length<1000000)(h:Sep E (A::L) w):
  Calls P yC #[.func (.func f) #[] ca] w (bW λv w'=>∃s:Sl,v=Sv s/\s.n=xs.length/\Sep E (bC s 1 (bD xs)::A'::L) w'):=Pn (fi:= #[]) (λy=>by simp) hf b a h
def vV:ky P tD=true:=by kernel_rfl
def vW{b:Nat}{g:Int}(h:Sep E L w):Calls P Cx #[Pb b,Iv g] w (bW λv w'=>∃a c,v=.func (.func tD) #[] #[Pb a,Pb c]/\
  Sep E (bE a [Pb b]::bE c [Iv g]::L) w'):=by
 apply Wt;unfold K9 qC;exact Al.i h (λa e h1=>Al.i h1 (λc w2 d=>⟨a,c,rfl,d.swap⟩))
def p4{l:List G}(hw:WF l)(g:Int):(c8 l g).length<=64:=by
 unfold c8;split
 ·next h=>
  obtain⟨n,rfl,x,hx,_⟩:=iE.1 h;have a:=(cT.1 hx).1;rw[eb,dk];have:=(Be hw n a).2;have:=hw.fq;omega
 ·simp
def rW{b:Nat}{l:List G}{g:Int}(hw:WF l)(h:Sep E (dT b l::L) w):Calls P pV #[Pb b,Iv g] w (bW λv w'=>∃s:Sl,v=Sv s/\s.n=(c8 l g).length/\
  Sep E (bC s 1 (bD (c8 l g))::dT b l::L) w'):=by
 apply Wj;unfold KY qJ qN;refine use (vW h) ?_;rintro _ k ⟨i,j,rfl,h1⟩;refine⟨_,rfl,?_⟩;have c:Sep E (star (bE i [Pb b]) (star (bE j [Iv g]) (dT b l))::L) k:=by
  have a:=Sep.star.2 (h1.ro 3 [1,2,0] rfl);exact Sep.star.2 a.swap
 refine use (aGC vV (Pm hw) (by have:=p4 hw g;omega) c) ?_;rintro _ w2 ⟨s,rfl,f,a⟩;refine⟨s,rfl,s,rfl,f,?_⟩;have d:=Sep.star.1 a.swap;have e:=Sep.star.1 d.swap;exact e.ro 4 [3,1] rfl
def aKl{b:Nat}{l:List G}{g:Int}(hw:WF l)(h:Sep E (dT b l::L) w):Calls P C0 #[Pb b,Iv g] w (bW λv w'=>v=Iv (Hq l g)/\Sep E (dT b l::L) w'):=by
 apply Xz;unfold DX qC qD qN;refine Al.i h (λp F h1=>?_);refine St.i h1 (by show 0<1;decide) (λw2 m=>?_);have m:Sep E (bE p [Iv (-1)]::dT b l::L) w2:=m;refine use (vW m) ?_;rintro _ C ⟨A,B,rfl,t⟩;refine⟨_,rfl,?_⟩;have hlen:=p4 hw g;have u:Sep E (bE p [Iv (((0:Nat):Int)-1)]::star (bE A [Pb b]) (star (bE B [Iv g]) (dT b l))::L) C:=by
  have c:=Sep.star.2 (t.ro 4 [1,3,0,2] rfl);exact(Sep.star.2 c.swap).swap
 refine ib.i (τ:=fD) (ρ:=gG) (cz:=cz) (An:=tM) (yl:=D0) mixed bO bO XB vV (Pm hw)
  (λk=>bE p [Iv ((k:Int)-1)]) (λ_=>cC False emp) ?_ u ?_ ?_
 ·intro z r L' k x W R d j hx a o _;have n:k<(c8 l g).length:=by have:=(cT.1 hx).1;rwa[eb]at this
  obtain⟨y,rfl⟩:∃y,x=Iv y:=by
   rw[ew]at hx;cases n:(c8 l g)[k]? with
   |none=>rw[n]at hx;cases hx
   |some y=>rw[n]at hx;exact⟨y,(cQ hx).symm⟩
  refine(XA _ g ⟨p,0,none⟩ _ y z W R).mpr ?_;unfold Mz qD;refine kU.i a d (λH c=>?_);refine⟨_,c.cellAt 1 rfl 0,?_⟩;refine St.i c.swap (by show 0<1;decide) (λI f=>?_);have s:i64.wrap ((k:Int)-1+1)=((k+1:Nat):Int)-1:=by rw[cH bA bA];omega
  rw[s]at f;refine e0.i f.swap (λD i=>?_);have e:({ {r with state:=.busy} with state:=if(none:Option Code).isNone then .ready else .done,pending:=none} :Loop)=r:=by
   cases r;simp only at d j;subst d j;rfl
  rw[e]at i;exact o D i
 ·intro q W a;rw[eb]at a;have c:=(a.putObj (o':=.deferred none)).tail;refine⟨_,a.cellAt 1 rfl 0,a.dp,rfl,?_⟩;have f:=Sep.star.1 c.tail;have i:=Sep.star.1 f.swap;exact i.ro 3 [1] rfl
 ·intro q k W _ a;exact(Sep.cC.1 a.swap).1.elim
end Go.Mp
namespace Go.Kv
open Go Go.Vc Go.Sp
def kg:(n:Nat)->RT n->Nat->List Nat
 |0,ws,a=>(List.range 16).flatMap λd=>if(List.getD (ws:List (Option Nat)) d none).isSome then[a*16+d]else[]
 |n+1,ks,a=>(List.range 16).flatMap λd=>match List.getD (ks:List (Option (Nat×RT n))) d none with
  |none=>[]
  |some (_,s)=>kg n s (a*16+d)
def hy:(n:Nat)->RT n->Nat->Nat->List Nat
 |0,ws,a,d=>if(List.getD (ws:List (Option Nat)) d none).isSome then[a*16+d]else[]
 |n+1,ks,a,d=>match List.getD (ks:List (Option (Nat×RT n))) d none with
  |none=>[]
  |some (_,s)=>kg n s (a*16+d)
def rX(n:Nat)(t:RT n)(a:Nat):kg n t a=(List.range 16).flatMap (hy n t a):=by cases n<;>rfl
def slot:(n:Nat)->RT n->Nat->Bool
 |0,ws,d=>(List.getD (ws:List (Option Nat)) d none).isSome
 |n+1,ks,d=>(List.getD (ks:List (Option (Nat×RT n))) d none).isSome
end Go.Kv
namespace Go.Mp
open Go Go.Vc Go.Sp Go.Proofs Go.Kc Go.Kv
variable{E:Env}{L:ch}{w W:World}
def Po{n d a:Nat}{t:RT n}(h:slot n t d=false):hy n t a d= []:=by
 cases n with
 |zero=>
  have h:(List.getD (t:List (Option Nat)) d none).isSome=false:=h;show(if(List.getD (t:List (Option Nat)) d none).isSome then[a*16+d]else[])= []
  rw[h];rfl
 |succ n=>
  have h:(List.getD (t:List (Option (Nat×RT n))) d none).isSome=false:=h;show(match List.getD (t:List (Option (Nat×RT n))) d none with|none=>[]|some (_,s)=>kg n s (a*16+d))= []
  cases b:List.getD (t:List (Option (Nat×RT n))) d none with
  |none=>rfl
  |some y=>rw[b]at h;cases h
def Pp{n d:Nat}{t:RT n}(b:RT.ok n t)(c:d<16):∃h:Nat,h<65536/\(RT.vs n t)[32]?=some (.int .u16 (h:Int))/\h/2^d%2=if slot n t d then 1 else 0:=by
 have gd:∀ {α:Type} (l:List (Option α)),(l.map Option.isSome).getD d false=(l.getD d none).isSome:=by
  intro α l;rw[dK,ew,dK];cases l[d]? with
  |none=>rfl
  |some y=>rfl
 cases n with
 |zero=>
  obtain⟨ws,rfl⟩:∃ws:List (Option Nat),ws=t:=⟨t,rfl⟩
  have a:ws.length=16:=b;refine⟨hasB (ws.map Option.isSome),?_,o6 ot a,?_⟩
  ·have:=oZ (ws.map Option.isSome);rw[eb,a]at this;exact this
  ·rw[vt,gd];rfl
 |succ n=>
  obtain⟨ks,rfl⟩:∃ks:List (Option (Nat×RT n)),ks=t:=⟨t,rfl⟩
  have a:ks.length=16:=b.1;refine⟨hasB (ks.map Option.isSome),?_,o6 (by rw[eb];exact a) ot,?_⟩
  ·have:=oZ (ks.map Option.isSome);rw[eb,a]at this;exact this
  ·rw[vt,gd];rfl
def Pq{a d:Nat}(c:a<4096)(f:d<16):iG .i64 (i64.wrap ((a:Int)*2^(min (4:Int).toNat 64))) (d:Int)=((a*16+d:Nat):Int):=by
 have e:i64.wrap ((a:Int)*2^(min (4:Int).toNat 64))=((a*16:Nat):Int):=by
  rw[show((a:Int)*2^(min (4:Int).toNat 64))=((a*16:Nat):Int) by rw[uS];rfl];exact cH bA bA
 rw[e];have h1:(BitVec.ofInt 64 ((a*16:Nat):Int) ||| BitVec.ofInt 64 (d:Int)).toNat=a*16+d:=by
  rw[BitVec.toNat_or,q6,q6,q8,q8,lQ bA,lQ bA];have:=GI (i:=4) (b:=d) bA a;rw[sO a 16];exact this.symm
 show i64.wrap ((BitVec.ofInt 64 ((a*16:Nat):Int) ||| BitVec.ofInt 64 (d:Int)).toNat:Int)=_;rw[h1];exact cH bA bA
def aIu{n b d a:Nat}{t:RT (n+1)}{s:RT n}(f:gH t d=some (a,s))(L:ch):(dJ (n+1) b t++L).Perm (dJ n a s++(bE b (RT.vs (n+1) t)::(jN n (t:List (Option (Nat×RT n))) d++L))):=by
 obtain⟨ks,rfl⟩:∃ks:List (Option (Nat×RT n)),ks=t:=⟨t,rfl⟩
 have e:ks[d]?=some (some (a,s)):=by
  have h1:ks.getD d none=some (a,s):=f;rw[dK]at h1;cases c:ks[d]? with
  |none=>rw[c]at h1;cases h1
  |some y=>rw[c]at h1;exact eO some h1
 show((bE b (RT.vs (n+1) ks)::List.flatMap (eZ n) ks)++L).Perm _;rw[tq e];unfold jN;show((bE b (RT.vs (n+1) ks)::(List.flatMap (eZ n) (ks.take d)++(dJ n a s++List.flatMap (eZ n) (ks.drop (d+1)))))++L).Perm _;generalize List.flatMap (eZ n) (ks.take d)=A;generalize List.flatMap (eZ n) (ks.drop (d+1))=B;generalize dJ n a s=C;generalize bE b (RT.vs (n+1) ks)=X;simp only[oJ,dc];refine(List.Perm.cons X ?_).trans il.symm;have h1:=sG (B++L) (lO (l₁:=A) (l₂:=C));rwa[dc,dc]at h1
def uc{n b d a:Nat}{t:RT (n+1)}{s:RT n}(c:gH t d=some (a,s))(J:Asn)(L:ch):(dJ (n+1) b t++J::L).Perm (dJ n a s++J::(bE b (RT.vs (n+1) t)::(jN n (t:List (Option (Nat×RT n))) d++L))):=
 (aIu c (J::L)).trans (mu _ (il (l₁:=bE b (RT.vs (n+1) t)::jN n (t:List (Option (Nat×RT n))) d)))
def vX{α:Type}(f:Nat->List α)(d:Nat):(List.range (d+1)).flatMap f=(List.range d).flatMap f++f d:=by
 rw[Hb,T2];simp
def Pt{α:Type}(f:Nat->List α){d n:Nat}(h:d<n):∃r,(List.range n).flatMap f=(List.range d).flatMap f++(f d++r):=by
 induction n with
 |zero=>omega
 |succ n b=>
  rw[vX];by_cases e:d=n;·subst e;exact⟨[],by rw[hF]⟩
  ·obtain⟨r,a⟩:=b bA;exact⟨r++f n,by rw[a];simp⟩
def aKE:∀(m:Nat) {b a k0 l:Nat} {t:RT m} {xs:List Value} {J X:Nat->Asn} {L:ch} {w:World},m<=3->RT.ok m t->a<16^(3-m)->(∀i p,(kg m t a)[i]?=some p->xs[k0+i]?=some (Iv (p:Nat)))->
  (∀k x W,xs[k]?=some x->Sep E (dJ m b t++J k::L) W->YieldAt Fence.wide 0 P l #[x] W (λe Q=>(e=.returned (.bool true)/\Sep E (dJ m b t++J (k+1)::L) Q)\/(e=.returned (.bool false)/\Sep E (dJ m b t++X k::L) Q)))->
  Sep E (dJ m b t++J k0::L) w->
  Calls P yL #[Pb b,Iv ((3-m:Nat):Int),Iv (a:Nat),.func (.yield l) #[] #[]] w (bW λv w'=>
   (v=.bool true/\Sep E (dJ m b t++J (k0+(kg m t a).length)::L) w')\/(v=.bool false/\∃k,k<k0+(kg m t a).length/\Sep E (dJ m b t++X k::L) w')):=by
 intro m;induction m with
 |zero=>
  intro b a k0 l t xs J X L w hm K R M O h;apply O3;unfold zd qF qO qb;have F:a<4096:=R;refine⟨λx w'=>∃d:Nat,x=d/\d<=16/\Sep E (dJ 0 b t++J (k0+((List.range d).flatMap (hy 0 t a)).length)::L) w',λx _=>(16-x).toNat,⟨0,rfl,bA,h⟩,?_⟩;rintro _ _ ak ⟨d,rfl,ah,h1⟩;refine cL (λY=>?_) (λU=>?_)
  ·have c:d<16:=by omega
   obtain⟨ag,T,G,H⟩:=Pp K c;have I:=p3 (j:=32) h1;rw[G]at I;refine⟨bO,_,rfl,_,by rw[cj,e5];exact I,by rw[dj];omega,?_⟩;rw[dj (n:=d) bA,dk,show min d 16=d by omega,sh,nE,H];have g:((16:Int)-((d+1:Nat):Int)).toNat<((16:Int)-(d:Int)).toNat:=by omega
   cases f:slot 0 t d with
   |false=>
    refine bT rfl ⟨rfl,?_,?_⟩
    ·refine⟨d+1,c1,bA,?_⟩;rw[vX,Po f,hF];exact h1
    ·rw[c1];exact g
   |true=>
    refine bF rfl (bF rfl ⟨l,rfl,?_⟩);rw[Pq F c];have u:hy 0 t a d= [a*16+d]:=by
     have f:(List.getD (t:List (Option Nat)) d none).isSome=true:=f;show(if(List.getD (t:List (Option Nat)) d none).isSome then[a*16+d]else[])=_;rw[f];rfl
    obtain⟨r,B⟩:=Pt (hy 0 t a) c;rw[<- rX,u]at B;have hx:=M ((List.range d).flatMap (hy 0 t a)).length (a*16+d) (by rw[B,fo (dN _),hG];rfl);obtain⟨fn,tmps,D,body,C,z⟩:=O _ _ _ hx h1;refine⟨fn,tmps,D,body,C,z.mono λe ab he=>?_⟩;rcases he with⟨rfl,A⟩|⟨rfl,A⟩
    ·refine⟨true,rfl,bF rfl ⟨rfl,⟨d+1,c1,bA,?_⟩,?_⟩⟩
     ·rw[vX,u,da];exact A
     ·rw[c1];exact g
    ·refine⟨false,rfl,bT rfl (.inr ⟨rfl,_,?_,A⟩)⟩;rw[B,da,da,lP];omega
  ·have:d=16:=by omega
   subst this;rw[<- rX]at h1;exact .inl ⟨rfl,h1⟩
 |succ m aj=>
  intro b a k0 l t xs J X L w hm K R M O h;apply O3;unfold zd qF qO qb;have F:a<4096:=by
   have:(16:Nat)^(3-(m+1))<=16^3:=uJ bO bA;have e:(16:Nat)^3=4096:=rfl;omega
  refine⟨λx w'=>∃d:Nat,x=d/\d<=16/\Sep E (dJ (m+1) b t++J (k0+((List.range d).flatMap (hy (m+1) t a)).length)::L) w',λx _=>(16-x).toNat,⟨0,rfl,bA,h⟩,?_⟩;rintro _ _ ak ⟨d,rfl,ah,h1⟩;refine cL (λY=>?_) (λU=>?_)
  ·have c:d<16:=by omega
   obtain⟨ag,T,G,H⟩:=Pp K c;have I:=p3 (j:=32) h1;rw[G]at I;refine⟨bO,_,rfl,_,by rw[cj,e5];exact I,by rw[dj];omega,?_⟩;rw[dj (n:=d) bA,dk,show min d 16=d by omega,sh,nE,H];have g:((16:Int)-((d+1:Nat):Int)).toNat<((16:Int)-(d:Int)).toNat:=by omega
   cases f:slot (m+1) t d with
   |false=>
    refine bT rfl ⟨rfl,?_,?_⟩
    ·refine⟨d+1,c1,bA,?_⟩;rw[vX,Po f,hF];exact h1
    ·rw[c1];exact g
   |true=>
    have f:(gH t d).isSome=true:=f;cases o:gH t d with
    |none=>rw[o]at f;cases f
    |some y=>
    obtain⟨aa,s⟩:=y;have Z:=vS K c;rw[o]at Z;have N:=p3 (j:=d) h1;rw[Z]at N;refine bF rfl (bT (by rw[gj];omega) ⟨_,rfl,_,rfl,⟨bA,bA⟩,?_⟩);rw[cj,cj,dk,show 0+0+d*1=d by omega];refine⟨_,N,?_⟩;have u:hy (m+1) t a d=kg m s (a*16+d):=by
     have o:List.getD (t:List (Option (Nat×RT m))) d none=some (aa,s):=o;show(match List.getD (t:List (Option (Nat×RT m))) d none with|none=>[]|some (_,s)=>kg m s (a*16+d))=_;rw[o]
    obtain⟨r,B⟩:=Pt (hy (m+1) t a) c;rw[<- rX,u]at B;have ad:i64.wrap (((3-(m+1):Nat):Int)+1)=((3-m:Nat):Int):=by rw[c1];omega
    have S:a*16+d<16^(3-m):=by
     have e:(16:Nat)^(3-m)=16^(3-(m+1))*16:=by rw[<- m9];congr 1;omega
     rw[e];omega
    rw[ad,Pq F c];have V:=h1.perm (uc o _ _);refine use (aj (b:=aa) (a:=a*16+d) (t:=s) (xs:=xs) (X:=X) bA (zj K o) S (λi p hp=>?_) (λk x W hx af=>?_) V) ?_
    ·rw[uV];refine M _ p ?_;rw[B,fo bA,sF];have ai:=(cT.1 hp).1;rw[eE ai];exact hp
    ·obtain⟨fn,tmps,D,body,C,z⟩:=O k x W hx (af.perm (uc o _ _).symm);exact⟨fn,tmps,D,body,C,z.mono λe ab he=>he.imp (λq=>⟨q.1,q.2.perm (uc o _ _)⟩) (λq=>⟨q.1,q.2.perm (uc o _ _)⟩)⟩
    ·rintro _ ab (⟨rfl,A⟩|⟨rfl,k,al,A⟩)
     ·have ae:=A.perm (uc o _ _).symm;refine⟨true,rfl,bF rfl ⟨rfl,⟨d+1,c1,bA,?_⟩,?_⟩⟩
      ·rw[vX,u,da,<- uV];exact ae
      ·rw[c1];exact g
     ·refine⟨false,rfl,bT rfl (.inr ⟨rfl,k,?_,A.perm (uc o _ _).symm⟩)⟩;rw[B,da,da];omega
  ·have:d=16:=by omega
   subst this;rw[<- rX]at h1;exact .inl ⟨rfl,h1⟩
end Go.Mp
