/- A part of the proof. -/
import Derived.Test.YtafigbgagbolgaaGreatDoorD06
set_option linter.all false
set_option maxRecDepth 100000
open Go.IntKind(i64 u64)
open Go.Proofs.Tryz
namespace Go.Mp
open Go Go.Vc Go.Proofs
variable{K:bj0}{w:bI}
variable(K w)
def OL(c b a:Addr):=
 qb w c λg=>qD w b λh=>zR w a λi j k l m n=>qp CR #[Pv g,Iv h,.agg #[Iv i,Iv j,Iv k,Iv l,Iv m,.bool n]] w λd e f=>K (.tuple #[Iv d,.bool e]) f
def OM(s:cm):=
 Dr (λa=>NN s λh=>qK a h 0 λi=>NN s λa4=>qZ a a4 1 λg=>qJ J1 #[Sv i] a λj e=>qG e a4 1 (Pv g) λk=>qR C7 #[Pv g] e λf c=>Al (.cells #[Sv j,Pv f] 112) (λb d=>K (Pv (some b)) d) c) w
def EA(t:cm)(yield:bH):=
 NN t λa=>qF yT #[Pv (some (a.add 0)),Iv 0,Iv 0,yield] w λb w2=>K aP4 w2
def ON(t:cm)(bL:Int):=
 qF Db #[Iv bL] w λp j=>dO p (K (.tuple #[.int .u64 0,.bool false]) j) (NN t λa4=>zb (some (a4.add 0)) 0 j λo n9 c m=>ej c 3 (Dr (λk=>NN n9 λh=>qQ tr #[Iv bL,Iv c] k λn a=>cF (some (h.add 0)) 16 n 1 λi=>qb a i λe=>cond e.isNone (K (.tuple #[.int .u64 0,.bool false]) a) ((o e (i64.wrap (c+1)) a))) m) (qQ tr #[Iv bL,Iv 3] m λd l=>Dr (λb=>NN n9 λa22=>cF (some (a22.add 16)) 16 d 1 λa23=>∃f:Int,b.cell? a23=some (.int .u64 f)/\NN n9 λa25=>∃g:Int,b.cell? (a25.add 32)=some (.int .u16 g)/\0<=(u64.wrap d)/\K (.tuple #[.int .u64 f,.bool ((dy .u16 (g.fdiv (2^(min (u64.wrap d).toNat 16))) 1) !=0)]) b) l))
def OO(x:Int):=
 zu w λa w2=>qJ Dd #[] w2 λP O=>zF Dc #[Sv P,.int .u64 x] O λM N B=>cond (N !=0) (qU [Iv 0,Iv 0,.bool false,.bool false] a B λh=>zn h a λn o p q=>K (.tuple #[.agg #[Iv n,Iv o,.bool p,.bool q],Iv N]) h) (Dr (λc=>qW M 0 1 λf=>qD c f λl=>qW M 1 1 λg=>qD c g λm=>zu c λb d=>zG d g (Iv m) λQ=>zG d f (Iv l) λR=>qU [Iv l,Iv m,.bool ((dy .u64 x 67108864) !=0),.bool ((dy .u64 x 134217728) !=0)] b d λi=>zn i b λC D E F=>qF De #[.agg #[Iv C,Iv D,.bool E,.bool F]] i λG e=>dO G (qU [Iv 0,Iv 0,.bool false,.bool false] a e λj=>zn j a λr s t u=>K (.tuple #[.agg #[Iv r,Iv s,.bool t,.bool u],Iv 1]) j) (zn e b λH I J L=>qU [Iv H,Iv I,.bool J,.bool L] a e λk=>zn k a λv y z A=>K (.tuple #[.agg #[Iv v,Iv y,.bool z,.bool A],Iv 0]) k)) B)
def aCn:=
 Al (.cells #[Pv none,Pv none,Pv none,Pv none,Pv none,Pv none,Pv none,Pv none,Pv none,Pv none,Pv none,Pv none,Pv none,Pv none,Pv none,Pv none,.int .u64 0,.int .u64 0,.int .u64 0,.int .u64 0,.int .u64 0,.int .u64 0,.int .u64 0,.int .u64 0,.int .u64 0,.int .u64 0,.int .u64 0,.int .u64 0,.int .u64 0,.int .u64 0,.int .u64 0,.int .u64 0,.int .u16 0] 227) (λa w2=>K (Pv (some a)) w2) w
def atH(n:Int):=
 cond (decide ((0:Int)<=n)) (K (.bool (decide (n<=65536))) w) (K aP2 w)
def OP(l:Sl)(I J L M N:Int)(O:Bool):=
 zY #[Iv I,Iv J,Iv L,Iv M,Iv N,.bool O] w λd w2=>qg (λQ=>qF yW #[Sv l] w2 λS o=>dO S (K (.tuple #[aP8,Iv 1]) o) (zR o d λT t u v x y=>qF Du #[.agg #[Iv T,Iv t,Iv u,Iv v,Iv x,.bool y]] o λz c=>dO z (K (.tuple #[aP8,Iv 1]) c) (cond (decide (((l.n:Nat):Int)≥64)) (K (.tuple #[aP8,Iv 1]) c) (Q c)))) λR=>qQ Dv #[Sv l,(.func (.func Ke) #[] #[Pv (some d)])] R λk g=>q9 (λe=>ej k 0 (e ((l.n:Nat):Int) g) (e k g)) λa q=>qg (λf=>Dr (λb=>e7 a l.n (qW l a 6 λa29=>qL b a29 0 λA=>qL b d 1 λB=>ej A B (K (.tuple #[aP8,Iv 4]) b) (f b)) (f b)) q) λr=>Dr (λh=>((0:Int)<=a/\a<=((l.c:Nat):Int))/\((0:Int)<=a/\a<=((a.toNat:Nat):Int))/\zR h d λC D E F G H=>((0:Int)<=a/\a<=((l.n:Nat):Int))/\zY #[Iv C,Iv D,Iv E,Iv F,Iv G,.bool H] h λp s=>∃m:Sl,∃i:bI,Sem.run P (Builtin.append_ #[109,109] 109 #[.slice (gA l.p 0 a.toNat 6) (a.toNat-0) (a.toNat-0),.slice (some p) 1 1]) s=.ok (Sv m) i/\∃n:Sl,∃j:bI,Sem.run P (Builtin.append_ #[109,109] 109 #[Sv m,.slice (gA l.p a.toNat l.c 6) (l.n-a.toNat) (l.c-a.toNat)]) i=.ok (Sv n) j/\K (.tuple #[Sv n,Iv 0]) j) r
def OQ(t:cm)(bL:Int):=
 zh tl #[Pv t,Iv bL] w λd c a=>dO c (K aP2 a) (NN t λa5=>qE Dw #[Pv (some (a5.add 0)),Iv bL,Iv 0] a λb=>K aP3 b)
def OR(l:Sl)(c h:Int):=
 qF yW #[Sv l] w λX k=>dO X (K (aP8) k) (Al (.cells #[aP8] 109) (λf W=>qO 0 W λi d g=>e7 d l.n (qW l d 6 λj=>zR g j λp q r s t u=>zg g λa m=>qU [Iv p,Iv q,Iv r,Iv s,Iv t,.bool u] a m λb=>cond (decide (c≥h)) (zR b a λv x y z A B=>zZ b a λC D=>qE yX #[.agg #[Iv v,Iv x,Iv y,Iv z,Iv A,.bool B],Iv C,Iv D,Pv (some f)] b λn=>(i (i64.wrap (d+1)) n)) (zR b a λE F G H I J=>zZ b a λL M=>qE yX #[.agg #[Iv E,Iv F,Iv G,Iv H,Iv I,.bool J],Iv L,Iv (min1 M c),Pv (some f)] b λe=>zR e a λN O P Q R S=>zZ e a λT U=>qE yX #[.agg #[Iv N,Iv O,Iv P,Iv Q,Iv R,.bool S],Iv (eR T h),Iv U,Pv (some f)] e λo=>(i (i64.wrap (d+1)) o))) (qc g f λV=>K (Sv V) g)) k)
def OS(s:cm)(bL:Int):=
 zg w λb w2=>NN s λa3=>qK w2 a3 0 λn=>zm Kh #[Sv n,Iv bL] w2 λo p q i j k l m=>qU [Iv o,Iv p,Iv q,Iv i,Iv j,.bool k] b m λa=>zR a b λc d e f g h=>K (.tuple #[.agg #[Iv c,Iv d,Iv e,Iv f,Iv g,.bool h],.bool l]) a
def OT(c:cm)(id:Int):=
 Al (.cells #[Pv c] 91) (λa w2=>qC #[Iv id] w2 λd b=>qb b a λf=>qp yR #[Pv f,(.func (.func Dx) #[] #[Pv (some a),Pv (some d)])] b λg h e=>K (.tuple #[Iv g,.bool h]) e) w
def OU(group:Int)(d g c:Addr):=
 Dr (λb=>qb b d λn=>NN n λa3=>qZ b a3 5 λr=>NN r λa5=>qZ b a5 0 λs=>zR b g λt u v j k l=>qD b c λm=>Calls P JV #[.agg #[Iv t,Iv u,Iv v,Iv j,Iv k,.bool l],Iv m] b λh a=>∃e:Int,∃f:Int,h=.returned (.agg #[Iv e,Iv f])/\qG a a5 0 (Pv s) λx=>qG a a3 5 (Pv r) λy=>zo a d (Pv n) λz=>zX JU #[Pv s,.agg #[Iv e,Iv f],Iv group] a λo p q i=>K (.tuple #[Iv o,Iv p,Iv q]) i) w
def OV(j k l m n:Int)(o:Bool)(bL:Int):=
 zY #[Iv j,Iv k,Iv l,Iv m,Iv n,.bool o] w λb w2=>Al (.cells #[Iv 0,Iv 0] 54) (λc a=>qL a b 2 λp=>cond (p==2) (qL a b 3 λq=>qL a b 4 λr=>qL a b 0 λs=>qU [Iv q,Iv (i64.wrap ((i64.wrap (r+bL))-s))] c a λi=>zZ i c λe f=>K (.agg #[Iv e,Iv f]) i) (qU [Iv (-1),Iv bL] c a λd=>zZ d c λg h=>K (.agg #[Iv g,Iv h]) d)) w2
def OW(c:cm)(bL id kind:Int)(write:Bool):=
 NN c λd=>qZ w d 5 λf=>NN f λa3=>qZ w a3 0 λg=>qQ vC #[Pv g,Iv id,Iv 1] w λj b=>NN c λe=>qZ b e 6 λh=>qQ Ki #[Pv h,Iv bL,.agg #[Iv kind,Iv id,.bool write,.bool false]] b λi a=>K aP4 a
def OX(t:cm)(bL x:Int):=
 qF Db #[Iv bL] w λD q=>dO D (K (Iv 1) q) (NN t λa4=>zb (some (a4.add 0)) 0 q λC n9 d z=>ej d 3 (qQ tr #[Iv bL,Iv d] z λa c=>qg (λe=>NN n9 λk=>cF (some (k.add 0)) 16 a 1 λl=>qb c l λA=>cond A.isNone (Al (.cells #[Pv none,Pv none,Pv none,Pv none,Pv none,Pv none,Pv none,Pv none,Pv none,Pv none,Pv none,Pv none,Pv none,Pv none,Pv none,Pv none,.int .u64 0,.int .u64 0,.int .u64 0,.int .u64 0,.int .u64 0,.int .u64 0,.int .u64 0,.int .u64 0,.int .u64 0,.int .u64 0,.int .u64 0,.int .u64 0,.int .u64 0,.int .u64 0,.int .u64 0,.int .u64 0,.int .u16 0] 225) (λp r=>NN n9 λa22=>cF (some (a22.add 0)) 16 a 1 λa23=>St a23 (Pv (some p)) (λs=>e s) r) c) (e c)) λf=>NN n9 λa25=>∃i:Int,f.cell? (a25.add 32)=some (.int .u16 i)/\0<=(u64.wrap a)/\NN n9 λa27=>St (a27.add 32) (.int .u16 (ji .u16 i (IntKind.u16.wrap (1*2^(min (u64.wrap a).toNat 16))))) (λg=>NN n9 λa29=>cF (some (a29.add 0)) 16 a 1 λm=>qb g m λB=>(C B (i64.wrap (d+1)) g)) f) (qQ tr #[Iv bL,Iv 3] z λb u=>Dr (λh=>NN n9 λa36=>∃j:Int,h.cell? (a36.add 32)=some (.int .u16 j)/\0<=(u64.wrap b)/\NN n9 λn=>cF (some (n.add 16)) 16 b 1 λo=>St o (.int .u64 x) (λv=>((.int .u64 (u64.wrap b)):bH)=(.int .u64 (u64.wrap b))/\NN n9 λa41=>St (a41.add 32) (.int .u16 (ji .u16 j (IntKind.u16.wrap (1*2^(min (u64.wrap b).toNat 16))))) (λy=>K (Iv 0) y) v) h) u))
def OY(x:Int):=
 qF Kj #[.int .u64 x] w λb a=>cond b (K (.int .u64 (ji .u64 x 134217728)) a) (K (.int .u64 x) a)
def OZ(group:Int)(e a b:Addr):=
 qm w e λr=>cond r (Dr (λw2=>qb w2 a λs=>NN s λa4=>qZ w2 a4 5 λt=>NN t λp=>qZ w2 p 0 λu=>qL w2 b 1 λv=>zX JY #[Pv u,Iv v,Iv group] w2 λg h i q=>K (.tuple #[Iv g,Iv h,Iv i]) q) w) (qb w a λj=>NN j λc=>qZ w c 5 λk=>NN k λd=>qZ w d 0 λl=>zX JZ #[Pv l,Iv group] w λm n o f=>K (.tuple #[Iv m,Iv n,Iv o]) f)
def EB(t:cm):=
 Al (.cells #[Pv t] 110) (λg w2=>qR yP #[] w2 λj k=>Al (.cells #[Pv none] 110) (λe l=>St e (Pv j) (λh=>qb h g λf=>iJ P 22 (.func (.func oC) #[Pv f] #[]) #[10] (kp f154.body) (kq f154.body) .ret ((((((((js [Pv t] 0 .nil).put (some 1) (Pv (some g))).put (some 2) (Pv none)).put (some 7) (Pv j)).put (some 3) (Pv (some e))).put (some 8) (Pv f)).put (some 9) (.func (.func oC) #[Pv f] #[]))) h (λb a=>qb a e λi=>a.heap[b]?=some (.deferred (some []))/\K (Pv i) (a.putObj b (.deferred none))) (λc d=>d.heap[c]?=some (.deferred (some []))/\K (Pv none) (d.putObj c (.deferred none)))) l) k) w
def z7(n:cm)(level b:Int)(yield:bH):=
 qO 0 w λg a c=>ej a 16 (0<=(4:Int)/\NN n λl=>∃k:Int,c.cell? (l.add 32)=some (.int .u16 k)/\0<=(u64.wrap a)/\cond ((dy .u16 (k.fdiv (2^(min (u64.wrap a).toNat 16))) 1)==0) ((([]:bA Nat)= []/\(g (i64.wrap (a+1)) c))) (ej level 3 (NN n λm=>cF (some (m.add 0)) 16 a 1 λa9=>qb c a9 λi=>qF yT #[Pv i,Iv (i64.wrap (level+1)),Iv (ji .i64 (i64.wrap (b*2^(min (4:Int).toNat 64))) a),yield] c λj d=>dO j (K aP2 d) ((([]:bA Nat)= []/\(g (i64.wrap (a+1)) d)))) (yj P none yield #[Iv (ji .i64 (i64.wrap (b*2^(min (4:Int).toNat 64))) a)] c λh e=>∃f,h=.returned (.bool f)/\dO f (K aP2 e) ((([]:bA Nat)= []/\(g (i64.wrap (a+1)) e)))))) (K aP3 c)
def azl(bL:Int):=
 cond (decide ((0:Int)<=bL)) (K (.bool (decide (bL<65536))) w) (K aP2 w)
def O0(bL level:Int):=
 0<=(u64.wrap (i64.wrap (4*(i64.wrap (3-level)))))/\K (Iv (dy .i64 (bL.fdiv (2^(min (u64.wrap (i64.wrap (4*(i64.wrap (3-level))))).toNat 64))) 15)) w
def O1:=
 qC #[Iv 2,Iv 24,Iv 1,Iv 1] w λa w2=>K (.slice (some a) 4 4) w2
def O2(b c:Int)(d e:Bool):=
 Al (.cells #[Iv b,Iv c,.bool d,.bool e] 125) (λa w2=>qL w2 a 0 λj=>cond (j==0) (zn w2 a λk l m n=>∃f:Bool,kE P .eql 125 (.agg #[Iv k,Iv l,.bool m,.bool n]) (.agg #[Iv 0,Iv 0,.bool false,.bool false]) f/\cond f (K aP3 w2) (qL w2 a 0 λo=>cond (o==1) (K aP3 w2) (qL w2 a 0 λg=>K (.bool (g==2)) w2))) (qL w2 a 0 λh=>cond (h==1) (K aP3 w2) (qL w2 a 0 λi=>K (.bool (i==2)) w2))) w
def O3(l:Sl):=
 qI 0 0 w λv f e d=>e7 e l.n (qW l e 6 λx=>zR d x λy z h i j k=>zg d λb g=>qU [Iv y,Iv z,Iv h,Iv i,Iv j,.bool k] b g λc=>zR c b λm n o p q r=>qF Du #[.agg #[Iv m,Iv n,Iv o,Iv p,Iv q,.bool r]] c λs a=>dO s (K aP2 a) (qL a b 0 λt=>ej t f (K aP2 a) (qL a b 1 λu=>(v u (i64.wrap (e+1)) a)))) (K aP3 d)
def O4(l m n o p:Int)(q:Bool):=
 zY #[Iv l,Iv m,Iv n,Iv o,Iv p,.bool q] w λb w2=>qg (λr=>qL w2 b 0 λs=>ej s 0 (K aP2 w2) (qL w2 b 1 λt=>qL w2 b 0 λu=>cond (decide (t<=u)) (K aP2 w2) (qL w2 b 1 λv=>cond (decide (v>65536)) (K aP2 w2) (r w2)))) λa=>qL a b 2 λc=>cond (c==1) (qL a b 3 λd=>cond (d==0) (qL a b 4 λe=>K (.bool (e==0)) a) (K aP2 a)) (cond (c==2) (qL a b 3 λf=>cond (decide ((0:Int)<=f)) (qL a b 3 λg=>cond (decide (g<=1048576)) (qL a b 4 λh=>cond (decide ((0:Int)<=h)) (qL a b 4 λi=>qL a b 1 λj=>qL a b 0 λk=>K (.bool (decide (i<=(i64.wrap (2097152-(i64.wrap (j-k))))))) a) (K aP2 a)) (K aP2 a)) (K aP2 a)) (K aP2 a))
def O5(b c d e f:Int)(g:Bool)(a:Addr):=
 zY #[Iv b,Iv c,Iv d,Iv e,Iv f,.bool g] w λh w2=>qL w2 h 1 λi=>qL w2 a 0 λj=>K (.bool (decide (i>j))) w2
def EC(n:cm)(bL level:Int):=
 qQ tr #[Iv bL,Iv level] w λb f=>qg (λg=>ej level 3 (NN n λr=>cF (some (r.add 0)) 16 b 1 λs=>qb f s λu=>qE Dw #[Pv u,Iv bL,Iv (i64.wrap (level+1))] f λa=>NN n λh=>cF (some (h.add 0)) 16 b 1 λi=>qb a i λq=>NN q λj=>∃d:Int,a.cell? (j.add 32)=some (.int .u16 d)/\cond (d !=0) (K aP4 a) (NN n λk=>cF (some (k.add 0)) 16 b 1 λl=>St l (Pv none) (λo=>g o) a)) (g f)) λt=>NN n λa20=>cF (some (a20.add 16)) 16 b 1 λm=>St m (.int .u64 0) (λc=>NN n λa23=>∃e:Int,c.cell? (a23.add 32)=some (.int .u16 e)/\0<=(u64.wrap b)/\NN n λa25=>St (a25.add 32) (.int .u16 (xJ .u16 e (IntKind.u16.wrap (1*2^(min (u64.wrap b).toNat 16))))) (λp=>K aP4 p) c) t
def O6(u v x y z:Int)(A:Bool)(b c:Int)(a:Addr):=
 zY #[Iv u,Iv v,Iv x,Iv y,Iv z,.bool A] w λB w2=>ej b c (Dr (λj=>qc j a λk=>zR j B λC D E F G n=>zf Kg #[.agg #[Iv C,Iv D,Iv E,Iv F,Iv G,.bool n],Iv b,Iv c] j λo p q r s t d=>∃g:Sl,d.cell? a=some (Sv g)/\((Sv g):bH)=(Sv k)/\zY #[Iv o,Iv p,Iv q,Iv r,Iv s,.bool t] d λl e=>∃h:Sl,e.cell? a=some (Sv h)/\((Sv h):bH)=(Sv k)/\∃i:Sl,∃f:bI,Sem.run P (Builtin.append_ #[109,109] 109 #[Sv k,.slice (some l) 1 1]) e=.ok (Sv i) f/\St a (Sv i) (λm=>K aP4 m) f) w2) (K aP4 w2)
def O7(y z A B C:Int)(D:Bool)(b n:Int):=
 zY #[Iv y,Iv z,Iv A,Iv B,Iv C,.bool D] w λa w2=>zg w2 λg c=>qg (λf=>qL c a 2 λF=>cond (F==2) (qL c a 4 λG=>qL c a 0 λq=>St (a.add 4) (Iv (i64.wrap (G+(i64.wrap (b-q))))) (λo=>f o) c) (f c)) λE=>St (a.add 0) (Iv b) (λp=>St (a.add 1) (Iv n) (λd=>zR d a λr s t u v x=>qU [Iv r,Iv s,Iv t,Iv u,Iv v,.bool x] g d λe=>zR e g λh i j k l m=>K (.agg #[Iv h,Iv i,Iv j,Iv k,Iv l,.bool m]) e) p) E
def O8(l:Sl)(bL:Int):=
 qC #[Iv bL] w λH w2=>zg w2 λa J=>qQ Dv #[Sv l,(.func (.func Kz) #[] #[Pv (some H)])] J λG x=>ej G 0 (qU [Iv 0,Iv 0,Iv 0,Iv 0,Iv 0,.bool false] a x λy=>zR y a λI e f g h i=>K (.tuple #[.agg #[Iv I,Iv e,Iv f,Iv g,Iv h,.bool i],.bool false]) y) (qF yW #[Sv l] x λz b=>dO z (qU [Iv 0,Iv 0,Iv 0,Iv 0,Iv 0,.bool false] a b λc=>zR c a λj k m n o p=>K (.tuple #[.agg #[Iv j,Iv k,Iv m,Iv n,Iv o,.bool p],.bool false]) c) (qW l G 6 λa25=>zR b a25 λA B C D E F=>qU [Iv A,Iv B,Iv C,Iv D,Iv E,.bool F] a b λd=>zR d a λq r s t u v=>K (.tuple #[.agg #[Iv q,Iv r,Iv s,Iv t,Iv u,.bool v],.bool true]) d))
def O9(group:Int)(c a:Addr):=
 Dr (λb=>qb b c λh=>NN h λa3=>qZ b a3 5 λi=>NN i λa5=>qZ b a5 0 λj=>qD b a λk=>qj Dy #[Pv j,Iv k,Iv group] b λe f d=>qD d a λg=>K (.tuple #[Iv g,Iv e,Iv f]) d) w
def Pa(c:cm)(target:Int):=
 Dr (λe=>NN c λI=>qZ e I 5 λJ=>NN J λa4=>qZ e a4 0 λL=>NN c λs=>qZ e s 5 λH=>NN c λn=>qZ e n 5 λo=>NN o λf=>qZ e f 0 λi=>qR p8 #[Pv L] e λz d=>qG d f 0 (Pv i) λM=>qG d n 5 (Pv o) λN=>qG d s 5 (Pv H) λO=>qJ oB #[Pv H] d λA g=>qG g f 0 (Pv i) λQ=>qG g n 5 (Pv o) λR=>qJ KC #[Pv i] g λB t=>qJ KB #[Pv z,Sv A,Iv target,Sv B] t λb u=>qO 0 u λp j a=>e7 j b.n (qW b j 1 λq=>qD a q λC=>NN c λa36=>qZ a a36 5 λD=>qE CN #[Pv D,Iv C] a λv=>(p (i64.wrap (j+1)) v)) (NN c λa40=>qK a (a40.add 7) 2 λE=>∃m:Sl,∃k:bI,Sem.run P (Builtin.append_ #[22,22] 22 #[Sv E,Sv b]) a=.ok (Sv m) k/\NN c λa44=>St ((a44.add 7).add 2) (Sv m) (λh=>cond (((b.n:Nat):Int)==0) (NN c λa46=>St ((a46.add 7).add 0) (Iv 12) (λx=>K aP2 x) h) (NN c λr=>qL h (r.add 0) 1 λF=>qF qe #[Sv b,Iv F] h λG l=>cond G (NN c λa53=>St ((a53.add 7).add 0) (Iv 13) (λy=>K aP2 y) l) (K aP3 l))) k)) w
def Pc(s:cm)(bL e f:Int)(g h:Bool):=
 Al (.cells #[Iv e,Iv f,.bool g,.bool h] 125) (λi w2=>zm CZ #[Pv s,Iv bL] w2 λA B C D E m n z=>zg z λj k=>qU [Iv A,Iv B,Iv C,Iv D,Iv E,.bool m] j k λb=>dO n (K (Iv 14) b) (zn b i λo p q r=>zB KD #[.agg #[Iv o,Iv p,.bool q,.bool r]] b λt u a=>qg (λd=>cond (u !=0) (K (Iv 1) a) (qL a i 0 λv=>cond (v==0) (K (Iv 1) a) (d a))) λc=>NN s λa27=>qZ c a27 1 λx=>qQ vG #[Pv x,Iv bL,.int .u64 t] c λy l=>K (Iv y) l)) w
def Pd(x:Int):=
 zt CT #[.int .u64 x] w λf g h i j d=>zu d λb e=>qU [Iv f,Iv g,.bool h,.bool i] b e λa=>cond (j==0) (qL a b 0 λc=>K (.bool (c !=0)) a) (K aP2 a)
def Pe(c d e f g:Int)(h:Bool)(a:Addr):=
 zY #[Iv c,Iv d,Iv e,Iv f,Iv g,.bool h] w λb w2=>qL w2 b 0 λi=>qD w2 a λj=>cond (decide (i<=j)) (qD w2 a λk=>qL w2 b 1 λl=>K (.bool (decide (k<l))) w2) (K aP2 w2)
def Pf(t:cm)(l:Sl)(target:Int)(whole:Sl):=
 qJ tp #[Pv t,Iv target] w λL I=>qQ KK #[Sv l,Sv L] I λo n=>ej o 0 (K (aP8) n) (qW l o 3 λH=>qL n H 0 λM=>qJ rW #[Pv t,Iv M] n λy J=>qQ KL #[Sv y,Iv target,Sv whole] J λk h=>ej k 0 (qC #[Iv o] h λp r=>K (.slice (some p) 1 1) r) (qJ tp #[Pv t,Iv k] h λz s=>qf ⟨none,0,0⟩ 0 s λf a b e=>e7 b l.n (qW l b 3 λa26=>qa e a26 λA B C=>zz e λd u=>qU [Iv A,Iv B,.bool C] d u λc=>qh (λg=>qy c d 2 λE=>cond E (qL c d 0 λF=>qF qe #[Sv z,Iv F] c λG v=>g G v) (g false c)) λD i=>cond D (qC #[Iv b] i λq x=>∃m:Sl,∃j:bI,Sem.run P (Builtin.append_ #[22,22] 22 #[Sv a,.slice (some q) 1 1]) x=.ok (Sv m) j/\(f m (i64.wrap (b+1)) j)) ((f a (i64.wrap (b+1)) i))) (K (Sv a) e)))
def Ph(j k:Int)(l m:Bool):=
 Al (.cells #[Iv j,Iv k,.bool l,.bool m] 125) (λa w2=>zn w2 a λx y z A=>qF De #[.agg #[Iv x,Iv y,.bool z,.bool A]] w2 λB q=>dO B (K (.tuple #[.int .u64 0,Iv 1]) q) (Dr (λh=>zn h a λd e i g=>qJ Dd #[] h λr b=>za b a 3 (.bool g) λC=>za b a 2 (.bool i) λD=>zH b a 1 (Iv e) λE=>zH b a 0 (Iv d) λF=>qQ DZ #[.bool i] b λs c=>za c a 3 (.bool g) λG=>zH c a 1 (Iv e) λH=>zH c a 0 (Iv d) λI=>qQ DZ #[.bool g] c λt f=>zH f a 1 (Iv e) λJ=>zH f a 0 (Iv d) λL=>qC #[Iv d,Iv e,Iv s,Iv t] f λn o=>zB DY #[Sv r,.slice (some n) 4 4] o λu v p=>K (.tuple #[.int .u64 u,Iv v]) p) q)) w
def Pj(l k:Sl):=
 Al (.cells #[Sv k] 22) (λx w2=>qC #[Iv 0] w2 λg y=>St g (Iv 0) (λz=>qI (-1) 0 z λi b a h=>e7 a l.n (qW l a 3 λj=>qa h j λo p q=>zz h λc m=>qU [Iv o,Iv p,.bool q] c m λd=>qa d c λr s t=>qF Wv #[.agg #[Iv r,Iv s,.bool t],Pv (some g),Pv (some x)] d λu e=>cond u (Dr (λf=>qL f c 1 λv=>St g (Iv v) (λn=>(i a (i64.wrap (a+1)) n)) f) e) ((i b (i64.wrap (a+1)) e))) (K (Iv b) h)) y) w
variable{K w}
def atj(c b a)(h:OL K w c b a):=bM {} #[Pv (some c),Pv (some b),Pv (some a)] K w func99 h
def aqL(s)(h:OM K w s):=bM (z8 [] [(1,[[0,1,2,3,5,6,7,8,4,9,10,11,12]],[4,9,11])]) #[Pv s] K w func101 h
def Pk:dU:={}
def aua:Nat->Bool:=λd=>[].contains d
def atY(t:cm)(yield:bH)(K:bj0)(w:bI):ni P fV gZ cD Pk aua f103 #[(.pointer t),yield] K w=EA K w t yield:=by kernel_rfl
def atr:nj P Pk f103 2=true:=by kernel_rfl
def as2(t:cm)(yield:bH){K:bj0}{w:bI}(h:EA K w t yield):Calls P oC #[(Pv t),yield] w (cC K):=oA mixed func103 atr (by rw[atY];exact h)
def asZ(t bL)(h:ON K w t bL):=bM {(z8 [16,27,28,42,43,44,45] [(7,[[0,1,2,4,5,3,6,7,8]],[3])] [(5,[(6,.ptr),(15,jZ)])]:dU)with head:=λr=>(bif r==12 then 17 else 0)} #[Pv t,Iv bL] K w func106 h
def axL(x)(h:OO K w x):=bM (z8 [14,24,25,27,28] [(4,[jQ 15],[13,14])]) #[.int .u64 x] K w func107 h
def aBZ(h:aCn K w):=bM {} #[] K w func120 h
def ath(n)(h:atH K w n):=bM (z8 [4,7]) #[Iv n] K w func130 h
def aAr(l a b c d e f)(h:OP K w l a b c d e f):=bM {(z8 [17,18,24,26,29,30,39] [(8,[[0,1,2,3,4,7,8,9,5,6,10,11,12]],[5,6,10])] [] [(3,[]),(6,[(6,jZ)]),(8,[])]:dU)with head:=λr=>(bif r==6 then 14 else 0)} #[Sv l,.agg #[Iv a,Iv b,Iv c,Iv d,Iv e,.bool f]] K w func131 h
def arS(t bL)(h:OQ K w t bL):=bM {} #[Pv t,Iv bL] K w func134 h
def aAs(l a b)(h:OR K w l a b):=bM (z8 [16,18,23,38,45,49] [] [(6,[(17,jZ)])]) #[Sv l,Iv a,Iv b] K w func135 h
def aqO(s bL)(h:OS K w s bL):=bM {} #[Pv s,Iv bL] K w func136 h
def awE(c id)(h:OT K w c id):=bM {} #[Pv c,Iv id] K w func137 h
def Pl(c:cm)(hV:bH)(K:bj0)(w:bI):Prop:=
 ∃(n:bi9) (M2:bI->Nat),(Dr (λh=>NN c λH=>qZ h H 5 λJ=>NN J λI=>qK h I 1 λL=>NN c λp=>qL h (p.add 0) 1 λz=>qW L z 2 λq=>qL h q 0 λA=>fe P hV #[Iv A] h λu e=>∃j:Int,∃k:Int,∃b:Int,u=.returned (.tuple #[Iv j,Iv k,Iv b])/\cond (b==0) (K (.tuple #[Iv j,.bool true]) e) (cond (b !=12) (NN c λr=>St ((r.add 7).add 0) (Iv b) (λx=>K (.tuple #[Iv (-1),.bool false]) x) e) (qF yY #[Pv c,Iv k] e λB i=>cond B (n i) (K (.tuple #[Iv (-1),.bool false]) i)))) w)/\∀M:Nat->bH,∀o:bI,n o->Dr (λa=>NN c λa25=>qZ a a25 5 λC=>NN C λa27=>qK a a27 1 λD=>NN c λa29=>qL a (a29.add 0) 1 λE=>qW D E 2 λs=>qL a s 0 λF=>fe P hV #[Iv F] a λv f=>∃l:Int,∃m:Int,∃d:Int,v=.returned (.tuple #[Iv l,Iv m,Iv d])/\cond (d==0) (K (.tuple #[Iv l,.bool true]) f) (cond (d !=12) (NN c λt=>St ((t.add 7).add 0) (Iv d) (λy=>K (.tuple #[Iv (-1),.bool false]) y) f) (qF yY #[Pv c,Iv m] f λG g=>cond G ((n g/\M2 g<M2 o)) (K (.tuple #[Iv (-1),.bool false]) g)))) o
def azd(c hV)(h:Pl c hV K w):=bM {(z8 [32,36] [(1,[jQ 24],[16])]:dU)with dyn:=λd=>[26].contains d,goto:=λl=>(bif l==0 then some []else none)} #[Pv c,hV] K w func138 h
def atl(group c b a)(h:OU K w group c b a):=bM (z8 [] [(1,[[0,1,2,3,4,5,6,7,8,10,9,11,12,13,14,15,16,17]],[9,11])]) #[Iv group,Pv (some c),Pv (some b),Pv (some a)] K w func139 h
def aAt(a b c d e f bL)(h:OV K w a b c d e f bL):=bM (z8 [7,13,16]) #[.agg #[Iv a,Iv b,Iv c,Iv d,Iv e,.bool f],Iv bL] K w func141 h
def awF(c bL id kind write)(h:OW K w c bL id kind write):=bM {} #[Pv c,Iv bL,Iv id,Iv kind,.bool write] K w func142 h
def as1(t bL x)(h:OX K w t bL x):=bM (z8 [18,29,42,43,44,53,65,66,67] [(14,[jQ 19],[15,18])] [(5,[(7,.ptr),(17,jZ)])] [(10,[])]) #[Pv t,Iv bL,.int .u64 x] K w func146 h
def ayU(x)(h:OY K w x):=bM (z8 [6]) #[.int .u64 x] K w func147 h
def awG(group c b a)(h:OZ K w group c b a):=bM (z8 [] [(2,[jQ 17],[10])]) #[Iv group,Pv (some c),Pv (some b),Pv (some a)] K w func148 h
def tL:dU:={}
def ED:Nat->Bool:=λd=>[].contains d
def arb(t:cm)(K:bj0)(w:bI):ni P fV gZ cD tL ED f154 #[(.pointer t)] K w=EB K w t:=by kernel_rfl
def aqQ:nj P tL f154 1=true:=by kernel_rfl
def aqK(t:cm){K:bj0}{w:bI}(h:EB K w t):Calls P C7 #[(Pv t)] w (cC K):=oA mixed func154 aqQ (by rw[arb];exact h)
def Pm(i j:Addr)(c:Int)(d:Nat)(w:bI)(R:Ending->bi9):Prop:=
 lI d (λa=>qb a i λf=>zh tl #[Pv f,Iv c] a λg k b=>qb b j λh=>qQ vG #[Pv h,Iv c,.int .u64 g] b λl e=>fg d none R e) w
def apC(t:cm)(c:Addr)(f:cm)(d:Addr)(e:cm)(a:Int)(b:Nat)(w:bI)(R:Ending->bi9):mM P fV gZ cD tL ED 22 b (kp f154.body) (kq f154.body) (lK [(10,.int .i64 a)] (((((((js [(.pointer t)] 0 .nil).put (some 1) (.pointer (some c))).put (some 2) (.pointer none)).put (some 7) (.pointer f)).put (some 3) (.pointer (some d))).put (some 8) (.pointer e)).put (some 9) (.func (.func oC) #[(.pointer e)] #[]))) w R=Pm c d a b w R:=by kernel_rfl
def apz:gY P 22 tL (kp f154.body)=true/\gY P 22 tL (kq f154.body)=true:=⟨by kernel_rfl,by kernel_rfl⟩
def Pn:dU:={quiet:=λd=>[12,15,17,24,25,26,27,30,38,48].contains d,loop:=λr=>(bif r==2 then[(11,.int .i64)]else[])}
def ar5:Nat->Bool:=λd=>[46].contains d
def ar4(n:cm)(level a:Int)(yield:bH)(K:bj0)(w:bI):ni P fV gZ cD Pn ar5 f161 #[(.pointer n),(.int .i64 level),(.int .i64 a),yield] K w=z7 K w n level a yield:=by kernel_rfl
def arZ:nj P Pn f161 4=true:=by kernel_rfl
def Po(n:cm)(level a:Int)(yield:bH){K:bj0}{w:bI}(h:z7 K w n level a yield):Calls P yT #[(Pv n),(Iv level),(Iv a),yield] w (cC K):=oA mixed func161 arZ (by rw[ar4];exact h)
def ayY(bL)(h:azl K w bL):=bM (z8 [4,7]) #[Iv bL] K w func164 h
def ayX(bL level)(h:O0 K w bL level):=bM (z8 [7,8,9,10,11]) #[Iv bL,Iv level] K w func165 h
def axM(h:O1 K w):=bM {} #[] K w func167 h
def ayV(a b c d)(h:O2 K w a b c d):=bM (z8 [5,9,14,19]) #[.agg #[Iv a,Iv b,.bool c,.bool d]] K w func168 h
def axS(l)(h:O3 K w l):=bM (z8 [7,9,19,23] [] [(3,[(3,jZ),(8,jZ)])]) #[Sv l] K w func196 h
def axT(a b c d e f)(h:O4 K w a b c d e f):=bM (z8 [5,11,16,21,24,28,31,34,38,43,52,53,54] [] [] [(3,[])]) #[.agg #[Iv a,Iv b,Iv c,Iv d,Iv e,.bool f]] K w func197 h
def axQ(b c d e f g a)(h:O5 K w b c d e f g a):=bM (z8 [8]) #[.agg #[Iv b,Iv c,Iv d,Iv e,Iv f,.bool g],Pv (some a)] K w func199 h
def Pp(n bL level)(h:EC K w n bL level):=bM (z8 [11,20,31,47,48,49] [] [] [(5,[])]) #[Pv n,Iv bL,Iv level] K w func200 h
def axR(d e f g i j a c b)(h:O6 K w d e f g i j a c b):=bM (z8 [9] [(2,[jQ 8],[4,5,6,7])]) #[.agg #[Iv d,Iv e,Iv f,Iv g,Iv i,.bool j],Iv a,Iv c,Pv (some b)] K w func201 h
def ay0(c d e f g i a b)(h:O7 K w c d e f g i a b):=bM (z8 [9,15,16] [] [] [(3,[])]) #[.agg #[Iv c,Iv d,Iv e,Iv f,Iv g,.bool i],Iv a,Iv b] K w func202 h
def ayZ(l bL)(h:O8 K w l bL):=bM (z8 [11]) #[Sv l,Iv bL] K w func203 h
def atf(group b a)(h:O9 K w group b a):=bM (z8 [] [(1,[jQ 15],[9])]) #[Iv group,Pv (some b),Pv (some a)] K w func204 h
def ax2(c target)(h:Pa K w c target):=bM (z8 [32,34,43,57,58] [(1,[[0,1,2,3,4,5,6,8,9,10,11,13,14,15,16,17,18,19,20,7,12,21,22,23]],[7,12,21,22])] [(3,[(33,jZ)])]) #[Pv c,Iv target] K w func206 h
def as9(s bL a b c d)(h:Pc K w s bL a b c d):=bM (z8 [25,29] [] [] [(7,[])]) #[Pv s,Iv bL,.agg #[Iv a,Iv b,.bool c,.bool d]] K w func210 h
def aAp(x)(h:Pd K w x):=bM (z8 [11,15]) #[.int .u64 x] K w func212 h
def awu(b c d e f g a)(h:Pe K w b c d e f g a):=bM (z8 [7,12]) #[.agg #[Iv b,Iv c,Iv d,Iv e,Iv f,.bool g],Pv (some a)] K w func256 h
def awC(t l target whole)(h:Pf K w t l target whole):=bM (z8 [21,33,40,42,58] [] [(10,[(12,.slice),(41,jZ)])] [(13,[(53,.bool)])]) #[Pv t,Sv l,Iv target,Sv whole] K w func260 h
def aAo(a b c d)(h:Ph K w a b c d):=bM (z8 [] [(3,[[1,2,3,4,5,6,8,9,0,7,10,11,12,13,14,15,16]],[0,7,10,11,12])]) #[.agg #[Iv a,Iv b,.bool c,.bool d]] K w func264 h
def ay5(l a)(h:Pj K w l a):=bM (z8 [12,14,24] [(7,[jQ 5],[4])] [(4,[(5,jZ),(13,jZ)])]) #[Sv l,Sv a] K w func289 h
end Go.Mp
namespace Go.Mp
open Go Go.Vc Go.Proofs
variable{K:bj0}{w:bI}
variable(K w)
def Pq(chain:Sl)(target:Int)(whole:Sl):=
 Al (.cells #[Sv whole] 194) (λi w2=>qQ vL #[Sv chain,Iv target] w2 λk j=>qO k j λh i10 b=>cond (decide (i10≥0)) (qW chain i10 1 λc=>qD b c λe=>qF Ww #[Iv e,Pv (some i)] b λf a=>cond f (qW chain i10 1 λd=>qD a d λg=>K (Iv g) a) ((h (i64.wrap (i10-1)) a))) (K (Iv (-1)) b)) w
def aCm(b:Bool):=
 cond b (K (Iv 1) w) (K (Iv 0) w)
def Pt(d e:Int)(f:Bool)(c a:Addr):=
 Al (.cells #[Iv d,Iv e,.bool f] 42) (λb w2=>qy w2 b 2 λi=>cond i (qL w2 b 1 λj=>qD w2 c λk=>cond (decide (j>k)) (qc w2 a λl=>qL w2 b 0 λm=>qF qe #[Sv l,Iv m] w2 λg h=>K (.bool g) h) (K aP2 w2)) (K aP2 w2)) w
def Pu(g:Int)(a:Addr):=
 cond (decide ((0:Int)<=g)) (qc w a λb=>e7 g b.n (qc w a λc=>qW c g 1 λa3=>qm w a3 λd=>K (.bool d) w) (K aP2 w)) (K aP2 w)
variable{K w}
def axX(chain target whole)(h:Pq K w chain target whole):=bM (z8 [16,18] [] [(4,[(9,jZ)])]) #[Sv chain,Iv target,Sv whole] K w func290 h
def aBW(b)(h:aCm K w b):=bM {} #[.bool b] K w func292 h
def awD(c d e b a)(h:Pt K w c d e b a):=bM (z8 [11]) #[.agg #[Iv c,Iv d,.bool e],Pv (some b),Pv (some a)] K w func304 h
def ava(g a)(h:Pu K w g a):=bM (z8 [5,9,10]) #[Iv g,Pv (some a)] K w func305 h
end Go.Mp
namespace Go.Mp
open Go Go.Vc Go.Sp Go.Proofs Go.Kc Go.Kv
variable{E:Env}{L:cr}{w W:bI}
def EE(i:Nat):dy .i64 (i:Int) 15=((i%16:Nat):Int):=by
 have h1:(BitVec.ofInt 64 (i:Int) &&& BitVec.ofInt 64 15).toNat=i%16:=by
  rw[xB,rl,uG];have:(BitVec.ofInt 64 15).toNat=15:=by decide
  rw[this];have h2:=uB (i%2^64) 4;rw[show(2:Nat)^4-1=15 by decide]at h2;rw[h2];omega
 show i64.wrap ((BitVec.ofInt 64 (i:Int) &&& BitVec.ofInt 64 15).toNat:Int)=_;rw[h1];exact cX bu bu
def n0{n:Nat}(h:n<65536):IntKind.u16.wrap (n:Int)=(n:Int):=by
 unfold IntKind.wrap;simp only[IntKind.signed,IntKind.bits,xD];rw[bJ bN];omega
def r2(i:Nat):dy .u16 (i:Int) 1=((i%2:Nat):Int):=by
 have h1:(BitVec.ofInt 16 (i:Int) &&& BitVec.ofInt 16 1).toNat=i%2:=by
  rw[xB,rl,uG];have:(BitVec.ofInt 16 1).toNat=1:=by decide
  rw[this];have h2:=uB (i%2^16) 1;rw[show(2:Nat)^1-1=1 by decide]at h2;rw[h2];omega
 show IntKind.u16.wrap ((BitVec.ofInt 16 (i:Int) &&& BitVec.ofInt 16 1).toNat:Int)=_;rw[h1];exact n0 bu
def Pw(bL:Int)(w:bI):Calls P Db #[Iv bL] w (cC λv w'=>v=.bool (decide (0<=bL/\bL<65536))/\w'=w):=by
 apply ayY;refine ij (λa=>⟨?_,rfl⟩) (λa=>⟨?_,rfl⟩);·exact eO Value.bool (sF.2 ⟨λe=>⟨a,e⟩,λe=>e.2⟩)
 ·exact eO Value.bool (dq (λe=>bu)).symm
def tM{p l:Nat}(hl:l<=3)(w:bI):Calls P tr #[Iv (p:Nat),Iv (l:Nat)] w (cC λv w'=>v=Iv (p/16^(3-l)%16:Nat)/\w'=w):=by
 apply ayX;have e:u64.wrap (i64.wrap (4*(i64.wrap (3-((l:Nat):Int)))))=((4*(3-l):Nat):Int):=by
  have:l=0\/l=1\/l=2\/l=3:=by omega
  rcases this with rfl|rfl|rfl|rfl<;>decide
 unfold O0;rw[e];refine⟨bu,?_,rfl⟩;have a:min ((((4*(3-l):Nat):Int)).toNat) 64=4*(3-l):=by omega
 rw[a,sh p (4*(3-l)),EE];have b:(2:Nat)^(4*(3-l))=16^(3-l):=by rw[Nat.pow_mul]
 rw[b]
def aGP{ks ws:bA (bX Nat)}{h d:Nat}(hk:ks.length=16)(a:d<16):(gF ks ws h)[d]?=some (.pointer ((ks.getD d none).map λb=>⟨b,0,none⟩)):=by
 unfold gF mL;rw[eQ (by simp;omega),ez,dC,du];rfl
def aEY{ks ws:bA (bX Nat)}{h d:Nat}(hk:ks.length=16)(hw:ws.length=16)(a:d<16):(gF ks ws h)[16+d]?=some (.int .u64 (((ws.getD d none).getD 0:Nat):Int)):=by
 unfold gF mL nh;rw[fL (by simp;omega),dY,hk,sB,eQ (by simp;omega),ez,dC (l:=ws),du];rfl
def pj{ks ws:bA (bX Nat)}{h:Nat}(hk:ks.length=16)(hw:ws.length=16):(gF ks ws h)[32]?=some (.int .u16 (h:Int)):=by
 unfold gF mL nh;rw[fL (by simp;omega),dY,hk,fL (by simp;omega),dY,hw];rfl
def oE:dJ.length=16:=by simp[dJ]
def g1{m:Nat}(t:RT (m+1))(d:Nat):bX (Nat×RT m):=List.getD (t:bA (bX (Nat×RT m))) d none
def aLG{α:Type}(ks:bA (bX (Nat×α)))(d:Nat):(ks.map (Option.map Prod.fst)).getD d none=(ks.getD d none).map Prod.fst:=by
 rw[dC,ez,dC];cases ks[d]? with
 |none=>rfl
 |some y=>cases y<;>rfl
def vX{m d:Nat}{t:RT (m+1)}(c:RT.ok (m+1) t)(a:d<16):(RT.vs (m+1) t)[d]?=some (.pointer ((g1 t d).map λq=>⟨q.1,0,none⟩)):=by
 obtain⟨ks,rfl⟩:∃ks:bA (bX (Nat×RT m)),ks=t:=⟨t,rfl⟩
 have hl:ks.length=16:=c.1;have h1:(gF (ks.map (Option.map Prod.fst)) dJ (hasB (ks.map Option.isSome)))[d]?=some (.pointer (((ks.map (Option.map Prod.fst)).getD d none).map λb=>⟨b,0,none⟩)):=aGP (by rw[dY];exact hl) a;rw[aLG]at h1;have h2:(((ks.getD d none).map Prod.fst).map λb=>(⟨b,0,none⟩:Addr))=(ks.getD d none).map λq=>⟨q.1,0,none⟩:=by cases ks.getD d none<;>rfl
 rw[h2]at h1;exact h1
def n1{m:Nat}(t:RT (m+1))(p:Nat):RT.look (m+1) t p=match g1 t (p/16^(m+1)%16)with|none=>none|some (_,s)=>RT.look m s p:=rfl
def Aa{m d b:Nat}{t:RT (m+1)}{s:RT m}(a:RT.ok (m+1) t)(hk:g1 t d=some (b,s)):RT.ok m s:=a.2 d b s hk
def aIO{m d b a:Nat}{t:RT (m+1)}{s:RT m}{M:cr}{w:bI}(hk:g1 t d=some (a,s))(h:Sep E (dR (m+1) b t++M) w):∃e,(∀w,Sep E (dR (m+1) b t++M) w->Sep E (dR m a s++e) w)/\Sep E (dR m a s++e) w:=by
 obtain⟨ks,rfl⟩:∃ks:bA (bX (Nat×RT m)),ks=t:=⟨t,rfl⟩
 have c:ks[d]?=some (some (a,s)):=by
  have h1:ks.getD d none=some (a,s):=hk;rw[dC]at h1;cases h2:ks[d]? with
  |none=>rw[h2]at h1;cases h1
  |some y=>rw[h2]at h1;exact eO some h1
 exact⟨_,λw h=>dR.open c h,dR.open c h⟩
def qv{m b j:Nat}{t:RT m}{M:cr}{w:bI}(h:Sep E (dR m b t++M) w):w.cell? ⟨b,j,none⟩=(RT.vs m t)[j]? :=by
 cases m with
 |zero=>exact(show Sep E (bD b (RT.vs 0 t)::M) w from h).cell j
 |succ m=>exact(show Sep E (bD b (RT.vs (m+1) t)::(List.flatMap (ff m) (t:bA (bX (Nat×RT m)))++M)) w from h).cell j
def aK1{t:RT 0}(a:RT.ok 0 t){p:Nat}:(RT.vs 0 t)[16+p%16]?=some (.int .u64 (((RT.look 0 t p).getD 0:Nat):Int))/\∃h:Nat,h<65536/\(RT.vs 0 t)[32]?=some (.int .u16 (h:Int))/\h/2^(p%16)%2=if(RT.look 0 t p).isSome then 1 else 0:=by
 obtain⟨ws,rfl⟩:∃ws:bA (bX Nat),ws=t:=⟨t,rfl⟩
 have hl:ws.length=16:=a;refine⟨aEY oE hl (k4 _ bN),hasB (ws.map Option.isSome),?_,pj oE hl,?_⟩
 ·have:=pb (ws.map Option.isSome);rw[dY,hl]at this;exact this
 ·rw[vu];have:(ws.map Option.isSome).getD (p%16) false=(ws.getD (p%16) none).isSome:=by
   rw[dC,ez,dC];cases ws[p%16]? with
   |none=>rfl
   |some y=>rfl
  rw[this];rfl
def iC(T:RT 3)(bL:Int):bX Nat:=if 0<=bL/\bL<65536 then RT.look 3 T bL.toNat else none
def EF{t:Nat}{T:RT 3}{bL:Int}(F:RT.ok 3 T)(h:Sep E (dR 3 t T++L) w):Calls P tl #[Pb t,Iv bL] w
  (cZ E (.tuple #[.int .u64 (((iC T bL).getD 0:Nat):Int),.bool (iC T bL).isSome]) (dR 3 t T++L)):=by
 apply asZ;unfold ON qF qQ qb zb;refine use (Pw bL w) ?_;rintro _ _ ⟨rfl,rfl⟩;refine⟨_,rfl,cy (λhr=>?_) (λhr=>?_)⟩
 ·have hr:¬ (0<=bL/\bL<65536):=kj (by simpa only[ir]using hr);unfold iC;rw[bJ hr];exact⟨rfl,h⟩
 have hr:0<=bL/\bL<65536:=by simpa using hr
 have u:iC T bL=RT.look 3 T bL.toNat:=by unfold iC;rw[bK hr]
 obtain⟨p,rfl⟩:∃p:Nat,bL=p:=⟨bL.toNat,bu⟩
 rw[dt]at u;rw[u];refine⟨_,rfl,λn9 x w'=>∃(n b:Nat) (s:RT n) (M:cr),x=((3-n:Nat):Int)/\n<=3/\n9=some ⟨b,0,none⟩/\RT.ok n s/\RT.look n s p=RT.look 3 T p/\(∀w,Sep E (dR 3 t T++L) w->Sep E (dR n b s++M) w)/\Sep E (dR 3 t T++L) w',
  λ_ x _=>(3-x).toNat,⟨3,t,T,L,rfl,ec _,by rw[cj],F,rfl,λ_ h=>h,h⟩,?_⟩
 rintro _ _ _ K ⟨n,b,s,M,rfl,hn,rfl,q,a,o,h1⟩;refine cU (λQ=>?_) (λO=>?_)
 ·obtain⟨m,rfl⟩:∃m,n=m+1:=⟨n-1,bu⟩
  refine Dr.i h1 (λw2 h2=>⟨_,rfl,use (tM (p:=p) (l:=3-(m+1)) bu w2) ?_⟩);rintro _ _ ⟨rfl,rfl⟩;have H:3-(3-(m+1))=m+1:=by omega
  rw[H];obtain⟨d,C⟩:∃d,p/16^(m+1)%16=d:=⟨_,rfl⟩
  rw[C];have g:d<16:=by omega
  have I:=vX q g;have c:=n1 s p;rw[C]at c;have f:=o _ h2;have B:=qv (j:=d) f;rw[I]at B;refine⟨_,rfl,_,rfl,⟨bu,bu⟩,?_⟩;rw[cj,cj,dt,show 0+0+d*1=d by omega];refine⟨_,B,?_⟩;cases hk:g1 s d with
  |none=>
   rw[hk]at c;refine bT rfl ⟨?_,h2⟩;rw[<- a,c];rfl
  |some y=>
   obtain⟨J,s'⟩:=y;rw[hk]at c;obtain⟨G,r,_⟩:=aIO hk f;refine bF rfl ⟨⟨m,J,s',G,?_,bu,rfl,Aa q hk,by rw[<- a,c],λw h=>r w (o w h),h2⟩,?_⟩;·rw[c4];omega
   ·rw[c4];show((3:Int)-((3-(m+1)+1:Nat):Int)).toNat<((3:Int)-((3-(m+1):Nat):Int)).toNat;omega
 ·have D:n=0:=by omega
  subst D;refine use (tM (p:=p) (l:=3) bu K) ?_;rintro _ _ ⟨rfl,rfl⟩;obtain⟨hw,hb,N,z,A⟩:=aK1 q (p:=p);rw[show p/16^(3-3)%16=p%16 by rw[iE,Bm,Bo]];have g:p%16<16:=k4 _ bN;refine⟨_,rfl,Dr.i h1 (λw2 h2=>?_)⟩;have f:=o _ h2;have i:=qv (j:=16+p%16) f;have k:=qv (j:=32) f;rw[hw]at i;rw[z]at k;refine⟨_,rfl,_,rfl,⟨bu,bu⟩,?_⟩;rw[cj,cj,dt,show 0+16+p%16*1=16+p%16 by omega];refine⟨_,i,_,rfl,_,by rw[cj,fz];exact k,?_,?_,h2⟩;·rw[dA];omega
  ·have e:(dy .u16 ((hb:Int).fdiv (2^(min (u64.wrap ((p%16:Nat):Int)).toNat 16))) 1 !=0)=(RT.look 3 T p).isSome:=by
    rw[dA,dt,show min (p%16) 16=p%16 by omega,sh,r2,A,a];cases(RT.look 3 T p).isSome<;>rfl
   rw[e,a]
def n2(n:Nat)(t a:RT n)(p x:Nat):Prop:=∀q,RT.look n a q=if q%16^(n+1)=p%16^(n+1)then some x else RT.look n t q
def hA{m:Nat}(t:RT (m+1))(d:Nat)(k:Nat×RT m):RT (m+1):=List.set (t:bA (bX (Nat×RT m))) d (some k)
def Ab{m d e:Nat}{t:RT (m+1)}{k:Nat×RT m}(b:RT.ok (m+1) t)(c:d<16):g1 (hA t d k) e=if e=d then some k else g1 t e:=by
 obtain⟨ks,rfl⟩:∃ks:bA (bX (Nat×RT m)),ks=t:=⟨t,rfl⟩
 have hl:ks.length=16:=b.1;show(ks.set d (some k)).getD e none=if e=d then some k else ks.getD e none
 rw[dC,hv,dC];by_cases h:d=e;·rw[bK h,eV,bK h.symm];rfl
 ·rw[bJ h,bJ (λa=>h a.symm)]
def EG{m d:Nat}{t:RT (m+1)}{b:Nat}{s:RT m}(a:RT.ok (m+1) t)(f:d<16)(ho:RT.ok m s):RT.ok (m+1) (hA t d (b,s)):=by
 have hl:List.length (t:bA (bX (Nat×RT m)))=16:=a.1;refine⟨by show(List.set (t:bA (bX (Nat×RT m))) d (some (b,s))).length=16;exact eh.trans hl,λi c e h=>?_⟩;have h:g1 (hA t d (b,s)) i=some (c,e):=h;rw[Ab a f]at h;split at h;·cases h;exact ho
 ·exact a.2 i c e h
def EH(p n:Nat):p/16^n%16=p%16^(n+1)/16^n:=by
 rw[ry,Nat.mod_mul_right_div_self]
def eU{p q n:Nat}:q%16^(n+1+1)=p%16^(n+1+1)↔q/16^(n+1)%16=p/16^(n+1)%16/\q%16^(n+1)=p%16^(n+1):=by
 have key:∀a:Nat,a%16^(n+1+1)=16^(n+1)*(a/16^(n+1)%16)+a%16^(n+1):=by
  intro a;rw[EH a (n+1)];have h1:=Nat.div_add_mod (a%16^(n+1+1)) (16^(n+1));have h2:a%16^(n+1+1)%16^(n+1)=a%16^(n+1):=Nat.mod_mod_of_dvd _ ⟨16,by rw[ry]⟩;rw[h2]at h1;exact h1.symm
 constructor
 ·intro h;refine⟨by rw[EH q (n+1),EH p (n+1),h],?_⟩;have h2:∀a:Nat,a%16^(n+1+1)%16^(n+1)=a%16^(n+1):=λa=>Nat.mod_mod_of_dvd _ ⟨16,by rw[ry]⟩;rw[<- h2 q,<- h2 p,h]
 ·rintro⟨h1,h2⟩;rw[key q,key p,h1,h2]
def n2.up{m d b p x:Nat}{t:RT (m+1)}{s s':RT m}(i:RT.ok (m+1) t)(g:p/16^(m+1)%16=d)(hk:(∃f,g1 t d=some (f,s))\/(g1 t d=none/\s=RT.zero m))(h:n2 m s s' p x):n2 (m+1) t (hA t d (b,s')) p x:=by
 have c:d<16:=by omega
 intro q;rw[n1,n1,Ab i c];by_cases a:q/16^(m+1)%16=d
 ·rw[bK a];show RT.look m s' q=_;rw[h q];by_cases h2:q%16^(m+1)=p%16^(m+1);·rw[bK h2,bK (eU.2 ⟨bu,h2⟩)]
  ·rw[bJ h2,bJ (λe=>h2 (eU.1 e).2),a];rcases hk with⟨f,hk⟩|⟨hk,rfl⟩
   ·rw[hk]
   ·rw[hk];exact RT.jJ m q
 ·rw[bJ a,bJ (λe=>a (by rw[(eU.1 e).1];exact g))]
def r3(t:RT 0)(d x:Nat):RT 0:=List.set (t:bA (bX Nat)) d (some x)
def n2.leaf{p x:Nat}{t:RT 0}(b:RT.ok 0 t):n2 0 t (r3 t (p%16) x) p x:=by
 obtain⟨ws,rfl⟩:∃ws:bA (bX Nat),ws=t:=⟨t,rfl⟩
 have hl:ws.length=16:=b;intro q;show(ws.set (p%16) (some x)).getD (q%16) none=if q%16^1=p%16^1 then some x else ws.getD (q%16) none
 rw[Nat.pow_one,dC,hv,dC];have:=k4 p (by decide:0<16);by_cases h:p%16=q%16;·rw[bK h,eV,bK h.symm];rfl
 ·rw[bJ h,bJ (λa=>h a.symm)]
def aKQ{t:RT 0}{d x:Nat}(a:RT.ok 0 t):RT.ok 0 (r3 t d x):=by
 show(List.set (t:bA (bX Nat)) d (some x)).length=16;exact eh.trans a
def Ac(l:bA Bool)(i:Nat):(hasB l).testBit i=l.getD i false:=by
 rw[be7,vu];cases l.getD i false<;>rfl
def Px(l:bA Bool){d:Nat}(a:d<l.length):hasB l ||| 2^d=hasB (l.set d true):=by
 apply xt;intro i;rw[Nat.testBit_or,sE,Ac,Ac,dC,dC,hv];by_cases h:d=i;·subst h;simp[a]
 ·simp[h]
def vY{h d:Nat}(c:h<65536)(g:d<16):ji .u16 (h:Int) (IntKind.u16.wrap (1*2^(min (u64.wrap ((d:Nat):Int)).toNat 16)))=((h ||| 2^d:Nat):Int):=by
 have h2:(2:Nat)^d<65536:=by
  have:(2:Nat)^d<=2^15:=uD bN bu;omega
 have e:IntKind.u16.wrap (1*2^(min (u64.wrap ((d:Nat):Int)).toNat 16))=((2^d:Nat):Int):=by
  rw[dA,dt,show min d 16=d by omega,Int.one_mul];have:((2:Int)^d)=((2^d:Nat):Int):=by rw[Int.natCast_pow];rfl
  rw[this];exact n0 h2
 rw[e];show IntKind.u16.wrap ((BitVec.ofInt 16 (h:Int) ||| BitVec.ofInt 16 ((2^d:Nat):Int)).toNat:Int)=_;have b:∀a:Nat,a<65536->(BitVec.ofInt 16 (a:Int)).toNat=a:=λa f=>by
  rw[rl,uG];exact mZ bu
 rw[BitVec.toNat_or,b h c,b _ h2];exact n0 (Nat.or_lt_two_pow (n:=16) c h2)
def aK2{m d b:Nat}{t:RT (m+1)}{s:RT m}(f:RT.ok (m+1) t)(e:d<16):∃h:Nat,h<65536/\(RT.vs (m+1) t)[32]?=some (.int .u16 (h:Int))/\
  ((RT.vs (m+1) t).set d (Pb b)).set 32 (.int .u16 ((h ||| 2^d:Nat):Int))=RT.vs (m+1) (hA t d (b,s)):=by
 obtain⟨ks,rfl⟩:∃ks:bA (bX (Nat×RT m)),ks=t:=⟨t,rfl⟩
 have hl:ks.length=16:=f.1;have c:(ks.map Option.isSome).length=16:=by rw[dY];exact hl
 refine⟨hasB (ks.map Option.isSome),?_,pj (by rw[dY];exact hl) oE,?_⟩
 ·have:=pb (ks.map Option.isSome);rw[c]at this;exact this
 ·rw[Px _ (by rw[c];exact e)];show((gF (ks.map (Option.map Prod.fst)) dJ _).set d _).set 32 _=gF ((ks.set d (some (b,s))).map (Option.map Prod.fst)) dJ (hasB ((ks.set d (some (b,s))).map Option.isSome));rw[hT,hT];rw[show Option.isSome (some (b,s))=true from rfl];generalize hasB ((ks.map Option.isSome).set d true)=H;unfold gF mL nh;have a:((ks.map (Option.map Prod.fst)).map λk=>Value.pointer (k.map λb=>⟨b,0,none⟩)).length=16:=by simp[hl]
  rw[sD _ _ (by rw[a];exact e),hT];rw[iD 32 _ (by rw[eh,a];decide),eh,a];rw[iD _ _ (by simp[dJ])];congr 2
def aK3{d x:Nat}{t:RT 0}(f:RT.ok 0 t)(e:d<16):∃h:Nat,h<65536/\(RT.vs 0 t)[32]?=some (.int .u16 (h:Int))/\
  ((RT.vs 0 t).set (16+d) (.int .u64 (x:Int))).set 32 (.int .u16 ((h ||| 2^d:Nat):Int))=RT.vs 0 (r3 t d x):=by
 obtain⟨ws,rfl⟩:∃ws:bA (bX Nat),ws=t:=⟨t,rfl⟩
 have hl:ws.length=16:=f;have c:(ws.map Option.isSome).length=16:=by rw[dY];exact hl
 refine⟨hasB (ws.map Option.isSome),?_,pj oE hl,?_⟩
 ·have:=pb (ws.map Option.isSome);rw[c]at this;exact this
 ·rw[Px _ (by rw[c];exact e)];show((gF dJ ws _).set (16+d) _).set 32 _=gF dJ (ws.set d (some x)) (hasB ((ws.set d (some x)).map Option.isSome));rw[hT];rw[show Option.isSome (some x)=true from rfl];generalize hasB ((ws.map Option.isSome).set d true)=H;unfold gF mL nh;have a:(dJ.map λk=>Value.pointer (k.map λb=>⟨b,0,none⟩)).length=16:=by simp[dJ]
  rw[iD (16+d) _ (by rw[a];omega),a,sB,sD d _ (by rw[dY,hl];exact e)];rw[iD 32 _ (by rw[a];decide),a,iD _ _ (by rw[eh,dY,hl];decide),eh,dY,hl,hT];rfl
def aLW: [Value.pointer none,.pointer none,.pointer none,.pointer none,.pointer none,.pointer none,.pointer none,.pointer none,.pointer none,.pointer none,.pointer none,.pointer none,.pointer none,.pointer none,.pointer none,.pointer none,
  .int .u64 0,.int .u64 0,.int .u64 0,.int .u64 0,.int .u64 0,.int .u64 0,.int .u64 0,.int .u64 0,.int .u64 0,.int .u64 0,.int .u64 0,.int .u64 0,.int .u64 0,.int .u64 0,.int .u64 0,.int .u64 0,.int .u16 0]=gF dJ dJ 0:=by
 simp[gF,mL,nh,dJ,List.replicate]
def Py{m d b:Nat}{t:RT (m+1)}{s s':RT m}:RT.vs (m+1) (hA t d (b,s))=RT.vs (m+1) (hA t d (b,s')):=by
 obtain⟨ks,rfl⟩:∃ks:bA (bX (Nat×RT m)),ks=t:=⟨t,rfl⟩
 show gF ((ks.set d (some (b,s))).map (Option.map Prod.fst)) dJ (hasB ((ks.set d (some (b,s))).map Option.isSome))=gF ((ks.set d (some (b,s'))).map (Option.map Prod.fst)) dJ (hasB ((ks.set d (some (b,s'))).map Option.isSome));rw[hT,hT,hT,hT];simp only[fC,Hk]
def Pz(n:Nat): [Value.pointer none,.pointer none,.pointer none,.pointer none,.pointer none,.pointer none,.pointer none,.pointer none,.pointer none,.pointer none,.pointer none,.pointer none,.pointer none,.pointer none,.pointer none,.pointer none,
  .int .u64 0,.int .u64 0,.int .u64 0,.int .u64 0,.int .u64 0,.int .u64 0,.int .u64 0,.int .u64 0,.int .u64 0,.int .u64 0,.int .u64 0,.int .u64 0,.int .u64 0,.int .u64 0,.int .u64 0,.int .u64 0,.int .u16 0]=RT.vs n (RT.zero n):=by
 have h1:RT.vs n (RT.zero n)=gF dJ dJ 0:=by
  cases n with
  |zero=>
   show gF dJ (List.replicate 16 none) (hasB (List.map Option.isSome (List.replicate 16 (none:bX Nat))))=_;rw[Uq,show hasB (List.replicate 16 (Option.isSome (none:bX Nat)))=0 by simp[hasB,List.replicate]];rfl
  |succ n=>
   show gF (List.map (Option.map Prod.fst) (List.replicate 16 (none:bX (Nat×RT n)))) dJ (hasB (List.map Option.isSome (List.replicate 16 (none:bX (Nat×RT n)))))=_;rw[Uq,Uq,show hasB (List.replicate 16 (Option.isSome (none:bX (Nat×RT n))))=0 by simp[hasB,List.replicate],show List.replicate 16 (Option.map Prod.fst (none:bX (Nat×RT n)))=dJ from rfl]
 rw[h1];exact aLW
def PC(n b:Nat):dR n b (RT.zero n)= [bD b (RT.vs n (RT.zero n))]:=by
 cases n with
 |zero=>rfl
 |succ n=>
  show bD b _::List.flatMap (ff n) (List.replicate 16 none)=_;have:List.flatMap (ff n) (List.replicate 16 none)= []:=by
   rw[List.flatMap_eq_nil_iff];intro x hx;rw[(List.mem_replicate.1 hx).2];rfl
  rw[this]
def PD{m d b a:Nat}{t:RT (m+1)}{s:RT m}{w:bI}(c:RT.ok (m+1) t)(e:d<16)(h:Sep E (dR m a s++(bD b (RT.vs (m+1) (hA t d (a,s)))::(ko m (t:bA (bX (Nat×RT m))) d++L))) w):Sep E (dR (m+1) b (hA t d (a,s))++L) w:=
 dR.shut (ks:=(t:bA (bX (Nat×RT m)))) (by have:List.length (t:bA (bX (Nat×RT m)))=16:=c.1;omega) h
def PE{m d b:Nat}{t:RT (m+1)}{w:bI}(a:RT.ok (m+1) t)(c:d<16)(h:Sep E (dR (m+1) b t++L) w):
  Sep E (bD b (RT.vs (m+1) t)::((ff m (g1 t d))++(ko m (t:bA (bX (Nat×RT m))) d++L))) w:=by
 obtain⟨ks,rfl⟩:∃ks:bA (bX (Nat×RT m)),ks=t:=⟨t,rfl⟩
 have hl:ks.length=16:=a.1;have hk:ks[d]?=some (g1 ks d):=by
  have:g1 ks d=ks.getD d none:=rfl;rw[this,dC,du];rfl
 have h1:Sep E (bD b (RT.vs (m+1) ks)::(List.flatMap (ff m) ks++L)) w:=h;rw[ta hk]at h1;refine h1.perm (List.Perm.cons _ ?_);unfold ko;generalize List.flatMap (ff m) (ks.take d)=A;generalize List.flatMap (ff m) (ks.drop (d+1))=B;generalize ff m (g1 ks d)=C;simp only[dp];have h1:=sC (B++L) (mu (l₁:=A) (l₂:=C));rwa[dp,dp]at h1
def aLw{t x:Nat}{T:RT 3}{bL:Int}(R:RT.ok 3 T)(h:Sep E (dR 3 t T++L) w):Calls P vG #[Pb t,Iv bL,.int .u64 (x:Int)] w
  (cC λv w'=>(¬ (0<=bL/\bL<65536)/\v=Iv 1/\Sep E (dR 3 t T++L) w')\/((0<=bL/\bL<65536)/\v=Iv 0/\∃T':RT 3,RT.ok 3 T'/\n2 3 T T' bL.toNat x/\Sep E (dR 3 t T'++L) w')):=by
 apply as1;unfold OX qF qQ qb qg zb;refine use (Pw bL w) ?_;rintro _ _ ⟨rfl,rfl⟩;refine⟨_,rfl,cy (λhr=>?_) (λhr=>?_)⟩
 ·have hr:¬ (0<=bL/\bL<65536):=kj (by simpa only[ir]using hr);exact .inl ⟨hr,rfl,h⟩
 have hr:0<=bL/\bL<65536:=by simpa using hr
 obtain⟨p,rfl⟩:∃p:Nat,bL=p:=⟨bL.toNat,bu⟩
 rw[dt];obtain⟨G,I⟩:∃G:bi9,G= λw'=>∃T':RT 3,RT.ok 3 T'/\n2 3 T T' p x/\Sep E (dR 3 t T'++L) w':=⟨_,rfl⟩
 have fin:∀w',G w'->(¬ (0<=(p:Int)/\(p:Int)<65536)/\(Value.int .i64 0=Iv 1)/\Sep E (dR 3 t T++L) w')\/((0<=(p:Int)/\(p:Int)<65536)/\Value.int .i64 0=Iv 0/\∃T':RT 3,RT.ok 3 T'/\n2 3 T T' p x/\Sep E (dR 3 t T'++L) w'):=by
  intro w' O;rw[I]at O;exact .inr ⟨hr,rfl,O⟩
 refine⟨_,rfl,λn9 y w'=>∃(n b:Nat) (s:RT n) (M:cr),y=((3-n:Nat):Int)/\n<=3/\n9=some ⟨b,0,none⟩/\RT.ok n s/\(∀s' o,RT.ok n s'->n2 n s s' p x->Sep E (dR n b s'++M) o->G o)/\Sep E (dR n b s++M) w',
  λ_ y _=>(3-y).toNat,⟨3,t,T,L,rfl,ec _,by rw[cj],R,λs' o h1 h2 g=>by rw[I];exact⟨s',h1,h2,g⟩,h⟩,?_⟩
 rintro _ _ _ o ⟨n,b,s,M,rfl,hn,rfl,c,C,h1⟩;refine cU (λW=>?_) (λV=>?_)
 ·obtain⟨m,rfl⟩:∃m,n=m+1:=⟨n-1,bu⟩
  refine use (tM (p:=p) (l:=3-(m+1)) bu o) ?_;rintro _ _ ⟨rfl,rfl⟩;have U:3-(3-(m+1))=m+1:=by omega
  rw[U];obtain⟨d,N⟩:∃d,p/16^(m+1)%16=d:=⟨_,rfl⟩
  rw[N];have a:d<16:=by omega
  have F:=vX c a;have J:=qv (j:=d) h1;rw[F]at J;have k:=PE c a h1;have hlen:(RT.vs (m+1) s).length=33:=by
   obtain⟨ks,rfl⟩:∃ks:bA (bX (Nat×RT m)),ks=s:=⟨s,rfl⟩
   have hl:ks.length=16:=c.1;show(gF (ks.map (Option.map Prod.fst)) dJ _).length=33;simp[gF,mL,nh,dJ,hl]
  refine⟨_,rfl,λw'=>∃(f:Nat) (s1:RT m),RT.ok m s1/\((∃S,g1 s d=some (S,s1))\/(g1 s d=none/\s1=RT.zero m))/\
   Sep E (bD b ((RT.vs (m+1) s).set d (Pb f))::(dR m f s1++(ko m (s:bA (bX (Nat×RT m))) d++M))) w',?_,?_⟩
  ·refine⟨_,rfl,_,rfl,⟨bu,bu⟩,?_⟩;rw[cj,cj,dt,show 0+0+d*1=d by omega];refine⟨_,J,?_⟩;cases hk:g1 s d with
   |none=>
    rw[hk]at k;refine bT rfl (Al.i k (λf w2 h2=>⟨_,rfl,_,rfl,⟨bu,bu⟩,?_⟩));rw[cj,cj,dt,show 0+0+d*1=d by omega];refine St.i h2.swap (by rw[hlen];omega) (λH g=>⟨f,RT.zero m,RT.mb m,.inr ⟨rfl,rfl⟩,?_⟩);rw[PC,<- Pz];exact g
   |some y=>
    obtain⟨f,s1⟩:=y;rw[hk]at k;refine bF rfl ⟨f,s1,Aa c hk,.inl ⟨f,rfl⟩,?_⟩;have:(RT.vs (m+1) s).set d (Pb f)=RT.vs (m+1) s:=by
     rw[hk]at F;apply gJ;intro i;rw[hv];split;·next e=>subst e;rw[F,bK (by rw[hlen];omega)];rfl
     ·rfl
    rw[this];exact k
  rintro _ w2 ⟨f,s1,D,hk,h2⟩;obtain⟨hb,q,r,u⟩:=aK2 (b:=f) (s:=s1) c a;have z:w2.cell? ⟨b,32,none⟩=some (.int .u16 (hb:Int)):=by
   rw[h2.cell 32,iM bu,r]
  refine⟨_,rfl,_,by rw[cj,fz];exact z,by rw[dA];omega,_,rfl,?_⟩;dsimp only;rw[cj,fz,vY q a];refine St.i h2 (by rw[eh,hlen];omega) (λH g=>?_);rw[u]at g;have K:H.cell? ⟨b,d,none⟩=some (Pb f):=by
   rw[g.cell d,vX (EG c a D) a,Ab c a,bK rfl];rfl
  refine⟨_,rfl,_,rfl,⟨bu,bu⟩,?_⟩;rw[cj,cj,dt,show 0+0+d*1=d by omega];refine⟨_,K,⟨m,f,s1,bD b (RT.vs (m+1) (hA s d (f,s1)))::(ko m (s:bA (bX (Nat×RT m))) d++M),?_,bu,rfl,D,?_,?_⟩,?_⟩;·rw[c4];omega
  ·intro s' B ho hu A;refine C (hA s d (f,s')) B (EG c a ho) (n2.up c N hk hu) (PD c a ?_);rw[Py (s:=s') (s':=s1)];exact A
  ·exact g.perm jo.symm
  ·rw[c4];show((3:Int)-((3-(m+1)+1:Nat):Int)).toNat<((3:Int)-((3-(m+1):Nat):Int)).toNat;omega
 ·have Q:n=0:=by omega
  subst Q;refine use (tM (p:=p) (l:=3) bu o) ?_;rintro _ _ ⟨rfl,rfl⟩;rw[show p/16^(3-3)%16=p%16 by rw[iE,Bm,Bo]];have a:p%16<16:=k4 _ bN;refine⟨_,rfl,Dr.i h1 (λw2 h2=>?_)⟩;have h2:Sep E (bD b (RT.vs 0 s)::M) w2:=h2;have hlen:(RT.vs 0 s).length=33:=by
   obtain⟨ws,rfl⟩:∃ws:bA (bX Nat),ws=s:=⟨s,rfl⟩
   have hl:ws.length=16:=c;show(gF dJ ws _).length=33;simp[gF,mL,nh,dJ,hl]
  obtain⟨hb,q,r,u⟩:=aK3 (x:=x) c a;have z:w2.cell? ⟨b,32,none⟩=some (.int .u16 (hb:Int)):=by rw[h2.cell 32,r]
  refine⟨_,rfl,_,by rw[cj,fz];exact z,by rw[dA];omega,_,rfl,_,rfl,⟨bu,bu⟩,?_⟩;rw[cj,cj,dt,show 0+16+p%16*1=16+p%16 by omega];refine St.i h2 (by rw[hlen];omega) (λH g=>⟨rfl,_,rfl,?_⟩);dsimp only;rw[cj,fz,vY q a];refine St.i g (by rw[eh,hlen];omega) (λB A=>fin B ?_);rw[u]at A;exact C _ B (aKQ c) (n2.leaf c) A
def aEL(h:Sep E L w):Calls P yP #[] w (cC λv w'=>∃t:Nat,v=Pb t/\Sep E (dR 3 t (RT.zero 3)++L) w'):=by
 apply aBZ;refine Al.i h (λt a h1=>⟨t,rfl,?_⟩);rw[PC,<- Pz];exact h1
def mg(n:Nat)(t a:RT n)(p:Nat):Prop:=∀q,RT.look n a q=if q%16^(n+1)=p%16^(n+1)then none else RT.look n t q
def j3{m:Nat}(t:RT (m+1))(d:Nat):RT (m+1):=List.set (t:bA (bX (Nat×RT m))) d none
def pk(t:RT 0)(d:Nat):RT 0:=List.set (t:bA (bX Nat)) d none
def PF{m d e:Nat}{t:RT (m+1)}(b:RT.ok (m+1) t)(c:d<16):g1 (j3 t d) e=if e=d then none else g1 t e:=by
 obtain⟨ks,rfl⟩:∃ks:bA (bX (Nat×RT m)),ks=t:=⟨t,rfl⟩
 have hl:ks.length=16:=b.1;show(ks.set d none).getD e none=if e=d then none else ks.getD e none
 rw[dC,hv,dC];by_cases h:d=e;·rw[bK h,eV,bK h.symm];rfl
 ·rw[bJ h,bJ (λa=>h a.symm)]
def aKx{m d:Nat}{t:RT (m+1)}(a:RT.ok (m+1) t)(e:d<16):RT.ok (m+1) (j3 t d):=by
 have hl:List.length (t:bA (bX (Nat×RT m)))=16:=a.1;refine⟨by show(List.set (t:bA (bX (Nat×RT m))) d none).length=16;exact eh.trans hl,λi b c h=>?_⟩;have h:g1 (j3 t d) i=some (b,c):=h;rw[PF a e]at h;split at h;·cases h
 ·exact a.2 i b c h
def aKy{t:RT 0}{d:Nat}(a:RT.ok 0 t):RT.ok 0 (pk t d):=by
 show(List.set (t:bA (bX Nat)) d none).length=16;exact eh.trans a
def mg.leaf{p:Nat}{t:RT 0}(b:RT.ok 0 t):mg 0 t (pk t (p%16)) p:=by
 obtain⟨ws,rfl⟩:∃ws:bA (bX Nat),ws=t:=⟨t,rfl⟩
 have hl:ws.length=16:=b;intro q;show(ws.set (p%16) none).getD (q%16) none=if q%16^1=p%16^1 then none else ws.getD (q%16) none
 rw[Nat.pow_one,dC,hv,dC];have:=k4 p (by decide:0<16);by_cases h:p%16=q%16;·rw[bK h,eV,bK h.symm];rfl
 ·rw[bJ h,bJ (λa=>h a.symm)]
def mg.up{m d b b0 p:Nat}{t:RT (m+1)}{s s':RT m}(g:RT.ok (m+1) t)(f:p/16^(m+1)%16=d)(hk:g1 t d=some (b0,s))(h:mg m s s' p):mg (m+1) t (hA t d (b,s')) p:=by
 have c:d<16:=by omega
 intro q;rw[n1,n1,Ab g c];by_cases a:q/16^(m+1)%16=d
 ·rw[bK a];show RT.look m s' q=_;rw[h q];by_cases h2:q%16^(m+1)=p%16^(m+1);·rw[bK h2,bK (eU.2 ⟨bu,h2⟩)]
  ·rw[bJ h2,bJ (λe=>h2 (eU.1 e).2),a,hk]
 ·rw[bJ a,bJ (λe=>a (by rw[(eU.1 e).1];exact f))]
def mg.gone{m d b0 p:Nat}{t:RT (m+1)}{s s':RT m}(g:RT.ok (m+1) t)(f:p/16^(m+1)%16=d)(hk:g1 t d=some (b0,s))(h:mg m s s' p)(c:∀q,RT.look m s' q=none):mg (m+1) t (j3 t d) p:=by
 have b:d<16:=by omega
 intro q;rw[n1,n1,PF g b];by_cases a:q/16^(m+1)%16=d
 ·rw[bK a];have h1:=h q;rw[c q]at h1;by_cases h2:q%16^(m+1)=p%16^(m+1);·rw[bK (eU.2 ⟨bu,h2⟩)]
  ·rw[bJ h2]at h1;rw[bJ (λe=>h2 (eU.1 e).2),a,hk];exact h1
 ·rw[bJ a,bJ (λe=>a (by rw[(eU.1 e).1];exact f))]
def aIM(l:bA Bool){d:Nat}(hl:l.length<=16):(BitVec.ofInt 16 (hasB l:Int) &&& ~~~ BitVec.ofInt 16 ((2^d:Nat):Int)).toNat=hasB (l.set d false):=by
 apply xt;intro i;rw[Ac,xB,Nat.testBit_and,BitVec.testBit_toNat,BitVec.testBit_toNat,BitVec.getLsbD_not,rl,rl,BitVec.getLsbD_ofNat,BitVec.getLsbD_ofNat,Ac,sE,dC,dC,hv];by_cases a:i<16
 ·by_cases h:d=i;·subst h;simp[a];split<;>simp
  ·simp[h,a]
 ·rw[dq a,gI bu];simp;split;·split<;>simp
  ·rfl
def vZ{l:bA Bool}{d:Nat}(hl:l.length=16)(a:d<16):xJ .u16 (hasB l:Int) (IntKind.u16.wrap (1*2^(min (u64.wrap ((d:Nat):Int)).toNat 16)))=(hasB (l.set d false):Int):=by
 have h2:(2:Nat)^d<65536:=by
  have:(2:Nat)^d<=2^15:=uD bN bu;omega
 have e:IntKind.u16.wrap (1*2^(min (u64.wrap ((d:Nat):Int)).toNat 16))=((2^d:Nat):Int):=by
  rw[dA,dt,show min d 16=d by omega,Int.one_mul];have:((2:Int)^d)=((2^d:Nat):Int):=by rw[Int.natCast_pow];rfl
  rw[this];exact n0 h2
 rw[e];show IntKind.u16.wrap ((BitVec.ofInt 16 (hasB l:Int) &&& ~~~ BitVec.ofInt 16 ((2^d:Nat):Int)).toNat:Int)=_;rw[aIM l bu];have:=pb (l.set d false);rw[eh,hl]at this;exact n0 this
def aKZ{m d:Nat}{t:RT (m+1)}(e:RT.ok (m+1) t)(c:d<16):∃l:bA Bool,l.length=16/\(RT.vs (m+1) t)[32]?=some (.int .u16 (hasB l:Int))/\
  (((RT.vs (m+1) t).set d (.pointer none)).set (16+d) (.int .u64 0)).set 32 (.int .u16 (hasB (l.set d false):Int))=RT.vs (m+1) (j3 t d):=by
 obtain⟨ks,rfl⟩:∃ks:bA (bX (Nat×RT m)),ks=t:=⟨t,rfl⟩
 have hl:ks.length=16:=e.1;refine⟨ks.map Option.isSome,by rw[dY];exact hl,pj (by rw[dY];exact hl) oE,?_⟩;show(((gF (ks.map (Option.map Prod.fst)) dJ _).set d _).set (16+d) _).set 32 _=gF ((ks.set d none).map (Option.map Prod.fst)) dJ (hasB ((ks.set d none).map Option.isSome));rw[hT,hT];rw[show Option.isSome (none:bX (Nat×RT m))=false from rfl];generalize hasB ((ks.map Option.isSome).set d false)=H;unfold gF mL nh;have a:((ks.map (Option.map Prod.fst)).map λk=>Value.pointer (k.map λb=>⟨b,0,none⟩)).length=16:=by simp[hl]
 rw[sD _ _ (by rw[a];exact c),hT];rw[iD (16+d) _ (by rw[eh,a];omega),eh,a,sB];rw[sD d _ (by simp[dJ];omega)];have e0:(dJ.map λx=>Value.int .u64 ((x.getD 0:Nat):Int)).set d (.int .u64 0)=dJ.map λx=>Value.int .u64 ((x.getD 0:Nat):Int):=by
  rw[show(dJ.map λx=>Value.int .u64 ((x.getD 0:Nat):Int))=List.replicate 16 (Value.int .u64 0) by simp[dJ]];exact List.set_replicate_self
 rw[e0];rw[iD 32 _ (by rw[eh,a];decide),eh,a];rw[iD _ _ (by simp[dJ])];congr 2
def aK0{d:Nat}{t:RT 0}(e:RT.ok 0 t)(c:d<16):∃l:bA Bool,l.length=16/\(RT.vs 0 t)[32]?=some (.int .u16 (hasB l:Int))/\
  ((RT.vs 0 t).set (16+d) (.int .u64 0)).set 32 (.int .u16 (hasB (l.set d false):Int))=RT.vs 0 (pk t d):=by
 obtain⟨ws,rfl⟩:∃ws:bA (bX Nat),ws=t:=⟨t,rfl⟩
 have hl:ws.length=16:=e;refine⟨ws.map Option.isSome,by rw[dY];exact hl,pj oE hl,?_⟩;show((gF dJ ws _).set (16+d) _).set 32 _=gF dJ (ws.set d none) (hasB ((ws.set d none).map Option.isSome));rw[hT];rw[show Option.isSome (none:bX Nat)=false from rfl];generalize hasB ((ws.map Option.isSome).set d false)=H;unfold gF mL nh;have a:(dJ.map λk=>Value.pointer (k.map λb=>⟨b,0,none⟩)).length=16:=by simp[dJ]
 rw[iD (16+d) _ (by rw[a];omega),a,sB,sD d _ (by rw[dY,hl];exact c)];rw[iD 32 _ (by rw[a];decide),a,iD _ _ (by rw[eh,dY,hl];decide),eh,dY,hl,hT];rfl
def PG{m:Nat}{t:RT m}(a:RT.ok m t):(RT.vs m t).length=33:=by
 cases m with
 |zero=>
  obtain⟨ws,rfl⟩:∃ws:bA (bX Nat),ws=t:=⟨t,rfl⟩
  have hl:ws.length=16:=a;show(gF dJ ws _).length=33;simp[gF,mL,nh,dJ,hl]
 |succ m=>
  obtain⟨ks,rfl⟩:∃ks:bA (bX (Nat×RT m)),ks=t:=⟨t,rfl⟩
  have hl:ks.length=16:=a.1;show(gF (ks.map (Option.map Prod.fst)) dJ _).length=33;simp[gF,mL,nh,dJ,hl]
def EI:∀ {l:bA Bool},hasB l=0->∀i,l.getD i false=false
 |[],_,_=>by simp
 |b::r,h,i=>by
  simp only[hasB]at h;cases b with
  |true=>simp at h
  |false=>
   have:=EI (l:=r) (by simp at h;omega);cases i with
   |zero=>rfl
   |succ i=>exact this i
def aLU{m:Nat}{t:RT m}(a:RT.ok m t):∃h:Nat,h<65536/\(RT.vs m t)[32]?=some (.int .u16 (h:Int))/\(h=0->∀q,RT.look m t q=none):=by
 cases m with
 |zero=>
  obtain⟨ws,rfl⟩:∃ws:bA (bX Nat),ws=t:=⟨t,rfl⟩
  have hl:ws.length=16:=a;have hb:=pb (ws.map Option.isSome);rw[dY,hl]at hb;refine⟨hasB (ws.map Option.isSome),hb,pj oE hl,λh q=>?_⟩;have h1:=EI h (q%16);show ws.getD (q%16) none=none;rw[dC,ez]at h1;rw[dC];cases h2:ws[q%16]? with
  |none=>rfl
  |some y=>rw[h2]at h1;cases y with
   |none=>rfl
   |some z=>cases h1
 |succ m=>
  obtain⟨ks,rfl⟩:∃ks:bA (bX (Nat×RT m)),ks=t:=⟨t,rfl⟩
  have hl:ks.length=16:=a.1;have hb:=pb (ks.map Option.isSome);rw[dY,hl]at hb;refine⟨hasB (ks.map Option.isSome),hb,pj (by rw[dY];exact hl) oE,λh q=>?_⟩;have h1:=EI h (q/16^(m+1)%16);refine(n1 (show RT (m+1)from ks) q).trans ?_;have e:g1 (show RT (m+1)from ks) (q/16^(m+1)%16)=ks.getD (q/16^(m+1)%16) none:=rfl;rw[dC,ez]at h1;rw[e,dC];cases h2:ks[q/16^(m+1)%16]? with
  |none=>rfl
  |some y=>rw[h2]at h1;cases y with
   |none=>rfl
   |some z=>cases h1
def aJT{m b d:Nat}{t:RT (m+1)}{w:bI}(e:RT.ok (m+1) t)(f:d<16)(h:Sep E (bD b (RT.vs (m+1) (j3 t d))::(ko m (t:bA (bX (Nat×RT m))) d++L)) w):Sep E (dR (m+1) b (j3 t d)++L) w:=by
 obtain⟨ks,rfl⟩:∃ks:bA (bX (Nat×RT m)),ks=t:=⟨t,rfl⟩
 have hl:ks.length=16:=e.1;have hk:(ks.set d none)[d]?=some none:=jm bu;have a:(ks.set d none).take d=ks.take d:=by rw[Ul (ec d)]
 have c:(ks.set d none).drop (d+1)=ks.drop (d+1):=by rw[Um bu]
 show Sep E (bD b (RT.vs (m+1) (j3 ks d))::(List.flatMap (ff m) (ks.set d none)++L)) w;rw[ta hk,a,c];exact h
def PH:∀(m:Nat) {b p:Nat} {t:RT m} {L:cr} {w:bI},m<=3->RT.ok m t->(RT.look m t p).isSome=true->Sep E (dR m b t++L) w->
  Calls P Dw #[Pb b,Iv (p:Nat),Iv ((3-m:Nat):Int)] w (cC λv w'=>v=.tuple #[]/\∃G:RT m,RT.ok m G/\mg m t G p/\Sep E (dR m b G++L) w')
 |0,b,p,t,L,w,_,c,_,h=>by
  apply Pp;unfold EC qE qQ qb qg;refine use (tM (p:=p) (l:=3) bu w) ?_;rintro _ _ ⟨rfl,rfl⟩;have a:p%16<16:=k4 _ bN;rw[show p/16^(3-3)%16=p%16 by rw[iE,Bm,Bo]];refine⟨_,rfl,λw'=>Sep E (dR 0 b t++L) w',bF rfl h,?_⟩;rintro _ A h1;have h1:Sep E (bD b (RT.vs 0 t)::L) A:=h1;have hlen:=PG c;obtain⟨l,hl,u,x⟩:=aK0 c a;refine⟨_,rfl,_,rfl,⟨bu,bu⟩,?_⟩;rw[cj,cj,dt,show 0+16+p%16*1=16+p%16 by omega];refine St.i h1 (by rw[hlen];omega) (λw2 h2=>⟨_,rfl,?_⟩);have r:w2.cell? ⟨b,32,none⟩=some (.int .u16 (hasB l:Int)):=by rw[h2.cell 32,iM bu,u]
  refine⟨_,by rw[cj,fz];exact r,by rw[dA];omega,_,rfl,?_⟩;dsimp only;rw[cj,fz,vZ hl a];refine St.i h2 (by rw[eh,hlen];omega) (λT k=>⟨rfl,pk t (p%16),aKy c,mg.leaf c,?_⟩);rw[x]at k;exact k
 |m+1,b,p,t,L,w,hm,c,hp,h=>by
  apply Pp;unfold EC qE qQ qb qg;refine use (tM (p:=p) (l:=3-(m+1)) bu w) ?_;rintro _ _ ⟨rfl,rfl⟩;have M:3-(3-(m+1))=m+1:=by omega
  rw[M];obtain⟨d,z⟩:∃d,p/16^(m+1)%16=d:=⟨_,rfl⟩
  rw[z];have a:d<16:=by omega
  have o:=n1 t p;rw[z]at o;cases hk:g1 t d with
  |none=>rw[o,hk]at hp;cases hp
  |some y=>
  obtain⟨f,s⟩:=y;rw[hk]at o;rw[o]at hp;have K:=Aa c hk;have F:=vX c a;rw[hk]at F;have n:=PE c a h;rw[hk]at n;have hlen:=PG c;obtain⟨l,hl,u,x⟩:=aKZ c a;refine⟨_,rfl,λw'=>∃s',mg m s s' p/\(∀q,RT.look m s' q=none)/\Sep E (bD b ((RT.vs (m+1) t).set d (.pointer none))::(ko m (t:bA (bX (Nat×RT m))) d++L)) w',bT (by rw[gD];omega) ?_,?_⟩
  ·refine⟨_,rfl,_,rfl,⟨bu,bu⟩,?_⟩;rw[cj,cj,dt,show 0+0+d*1=d by omega];refine⟨some ⟨f,0,none⟩,by rw[n.cell d,F];rfl,?_⟩;have H:=n.perm (L':=dR m f s++(bD b (RT.vs (m+1) t)::(ko m (t:bA (bX (Nat×RT m))) d++L))) jo.symm;have N:i64.wrap (((3-(m+1):Nat):Int)+1)=((3-m:Nat):Int):=by rw[c4];omega
   rw[N];refine use (PH m (b:=f) (p:=p) (t:=s) bu K hp H) ?_;rintro _ A ⟨rfl,s',D,g,h1⟩;have B:Sep E (bD b (RT.vs (m+1) t)::(dR m f s'++(ko m (t:bA (bX (Nat×RT m))) d++L))) A:=h1.perm jo;refine⟨rfl,_,rfl,_,rfl,⟨bu,bu⟩,?_⟩;rw[cj,cj,dt,show 0+0+d*1=d by omega];refine⟨some ⟨f,0,none⟩,by rw[B.cell d,F];rfl,_,rfl,?_⟩;obtain⟨W,U,I,J⟩:=aLU D;have r:=qv (j:=32) h1;rw[I]at r;refine⟨_,by rw[cj,fz];exact r,g0 (λV=>?_) (λhe=>?_)⟩
   ·refine⟨rfl,hA t d (f,s'),EG c a D,mg.up c z hk g,PD c a ?_⟩;have O:RT.vs (m+1) (hA t d (f,s'))=RT.vs (m+1) t:=by
     rw[Py (s':=s)];have Q:hA t d (f,s)=t:=by
      obtain⟨ks,rfl⟩:∃ks:bA (bX (Nat×RT m)),ks=t:=⟨t,rfl⟩
      show ks.set d (some (f,s))=ks;have C:ks.getD d none=some (f,s):=hk;apply gJ;intro i;rw[hv];split
      ·next e=>
       subst e;have S:ks.length=16:=c.1;rw[eV];rw[dC,du]at C;rw[du];exact eO some C.symm
      ·rfl
     rw[Q]
    rw[O];exact h1
   ·refine⟨_,rfl,_,rfl,⟨bu,bu⟩,?_⟩;rw[cj,cj,dt,show 0+0+d*1=d by omega];refine St.i B (by rw[hlen];omega) (λw2 h2=>⟨s',g,J bu,?_⟩);have k:=h2.perm (L':=dR m f s'++(bD b ((RT.vs (m+1) t).set d (.pointer none))::(ko m (t:bA (bX (Nat×RT m))) d++L))) jo.symm;exact(k.perm mu).left
  ·rintro _ A ⟨s',g,R,h1⟩;refine⟨_,rfl,_,rfl,⟨bu,bu⟩,?_⟩;rw[cj,cj,dt,show 0+16+d*1=16+d by omega];refine St.i h1 (by rw[eh,hlen];omega) (λw2 h2=>⟨_,rfl,?_⟩);have r:w2.cell? ⟨b,32,none⟩=some (.int .u16 (hasB l:Int)):=by rw[h2.cell 32,iM bu,iM bu,u]
   refine⟨_,by rw[cj,fz];exact r,by rw[dA];omega,_,rfl,?_⟩;dsimp only;rw[cj,fz,vZ hl a];refine St.i h2 (by rw[eh,eh,hlen];omega) (λT k=>⟨rfl,j3 t d,aKx c a,mg.gone c z hk g R,?_⟩);rw[x]at k;exact aJT c a k
def aKr{t p:Nat}{T:RT 3}(a:RT.ok 3 T)(hp:p<65536)(f:(RT.look 3 T p).isSome=true)(h:Sep E (dR 3 t T++L) w):Calls P CY #[Pb t,Iv (p:Nat)] w
  (cC λv w'=>v=.bool true/\∃T':RT 3,RT.ok 3 T'/\mg 3 T T' p/\Sep E (dR 3 t T'++L) w'):=by
 apply arS;unfold OQ qE zh;refine use (EF a h) ?_;rintro _ k ⟨rfl,h1⟩;have e:iC T (p:Int)=RT.look 3 T p:=by unfold iC;rw[eV,dt]
 have c:(!(iC T (p:Int)).isSome)=false:=by rw[e,f];rfl
 generalize iC T (p:Int)=g at c;refine⟨_,_,rfl,bF c ⟨_,rfl,?_⟩⟩;dsimp only;rw[cj];have d:=PH 3 (b:=t) (p:=p) (t:=T) bu a f h1;have e0:((3-3:Nat):Int)=0:=rfl;rw[e0]at d;refine use d ?_;rintro _ w2 ⟨rfl,T',h2,i,j⟩;exact⟨rfl,rfl,T',h2,i,j⟩
end Go.Mp
namespace Go.Kt
open Go
def G.vs(g:G):bA bH:=[Iv g.up,.bool g.live]
def G.lb(g:G):g.vs.length=2:=rfl
end Go.Kt
namespace Go.Mp
open Go Go.Vc Go.Sp Go.Proofs Go.Kt
variable{E:Env}{L:cr}{w W:bI}
def eb(b:Nat)(l:bA G):Asn:=fo λs:Sl=>cL (s.n=l.length) (star (bD b [Sv s]) (bw s 2 (bO G.vs l)))
def eb.get{b:Nat}{l:bA G}(h:Sep E (eb b l::L) w):∃s:Sl,s.n=l.length/\Sep E (bD b [Sv s]::bw s 2 (bO G.vs l)::L) w:=by
 obtain⟨s,h⟩:=Sep.ex.1 h;obtain⟨hn,h⟩:=Sep.cL.1 h;exact⟨s,hn,Sep.star.1 h⟩
def eb.mk{b:Nat}{l:bA G}{s:Sl}(hn:s.n=l.length)(h:Sep E (bD b [Sv s]::bw s 2 (bO G.vs l)::L) w):Sep E (eb b l::L) w:=
 Sep.ex.2 ⟨s,Sep.cL.2 ⟨hn,Sep.star.2 h⟩⟩
def tO{s:Sl}{l:bA G}{i:Int}{f:Addr->Prop}(q:Nat)(h:Sep E L w)(e:L[q]?=some (bw s 2 (bO G.vs l)))(hn:s.n=l.length){k:Nat}(d:i=k){x:G}(hx:l[k]?=some x)(g:∀b,s.p=some ⟨b,0,none⟩->(∀j,j<2->w.cell? ⟨b,k*2+j,none⟩=(x.vs)[j]?)->f ⟨b,k*2,none⟩):cF s.p s.n i 2 f:=by
 have m:=(c2.1 hx).1;subst d;refine bw.el q h e bu bu (λb hp a=>?_);rw[dt]at a ⊢;exact g b hp (λj c=>by rw[a j c,tE G.lb hx j c])
def kQ{b:Nat}{l:bA G}{g:Int}{q:Nat}(h:Sep E L w)(d:L[q]?=some (eb b l)):Calls P ku #[Pb b,Iv g] w (cC λv w'=>v=.bool (dB l g)/\w'=w):=by
 apply WW;unfold LB qK qW qy;obtain⟨s,hn,h1⟩:=eb.get (h.fr q d);refine ij (λa=>?_) (λa=>?_)
 ·refine⟨_,rfl,s,h1.cell 0,?_⟩;refine cU (λf=>?_) (λe=>?_)
  ·obtain⟨n,rfl⟩:∃n:Nat,g=n:=⟨g.toNat,bu⟩
   obtain⟨x,hx⟩:∃x,l[n]?=some x:=⟨_,du⟩
   refine⟨_,rfl,s,h1.cell 0,tO 1 h1 rfl hn rfl hx (λi _ c=>⟨x.live,?_,?_,rfl⟩)⟩;·rw[cj];exact c 1 bN
   ·unfold dB;rw[dt,hx,dK bu];rfl
  ·refine⟨?_,rfl⟩;unfold dB;rw[gI bu];simp
 ·refine⟨?_,rfl⟩;unfold dB;rw[dq bu];rfl
def aIk{b:Nat}{l:bA G}{g:Int}{q:Nat}(h:Sep E L w)(c:L[q]?=some (eb b l)):Calls P JK #[Pb b,Iv g] w (cC λv w'=>v=Iv (pQ l g)/\w'=w):=by
 apply Xj;unfold LP qF qK qL qW;refine use (kQ h c) ?_;rintro _ i ⟨rfl,rfl⟩;refine⟨_,rfl,cy (λa=>⟨?_,rfl⟩) (λa=>?_)⟩
 ·have:dB l g=false:=by simpa using a
  unfold pQ;rw[this];rfl
 ·have hl:dB l g=true:=by simpa using a
  obtain⟨n,rfl,x,hx,e⟩:=jg.1 hl;obtain⟨s,hn,h1⟩:=eb.get (h.fr q c);refine⟨_,rfl,s,h1.cell 0,tO 1 h1 rfl hn rfl hx (λf _ d=>⟨x.up,?_,?_,rfl⟩)⟩;·rw[cj];exact d 0 bN
  ·unfold pQ;rw[bK hl,dt,hx];rfl
def PI{l:bA G}{g:Nat}(hl:dB l g=true):dx l g=(chain l g).map Int.ofNat:=by unfold dx;rw[bK hl,dt]
def PJ{b d c:Nat}{l:bA G}{g:Int}(hw:WF l):Er P E tm #[Pb d,Pb c]
  (star (bD d [Pb b]) (star (bD c [Iv g]) (eb b l))) (star (bD d [Pb b]) (star (fo λx:Int=>bD c [Iv x]) (eb b l))) ((dx l g).map (Value.int .i64)):=by
 intro U J X M L W h;refine Calls.mono (R:=cC λv i=>v=.tuple #[]/\(Sep E (J ((dx l g).map (Value.int .i64)).length::star (bD d [Pb b]) (star (fo λx:Int=>bD c [Iv x]) (eb b l))::L) i\/
  ∃k,k<((dx l g).map (Value.int .i64)).length/\Sep E (X k::star (bD d [Pb b]) (star (fo λx:Int=>bD c [Iv x]) (eb b l))::L) i)) ?_ (λe i he=>?_)
 rotate_left
 ·obtain⟨v,rfl,rfl,he⟩:=he;exact⟨⟨_,rfl⟩,he⟩
 have pack:∀ {A:Asn} {x:Int} {i:bI},Sep E (A::bD d [Pb b]::bD c [Iv x]::eb b l::L) i->
   Sep E (A::star (bD d [Pb b]) (star (fo λx:Int=>bD c [Iv x]) (eb b l))::L) i:=by
  intro A x i t;have h1:Sep E (fo (λx:Int=>bD c [Iv x])::eb b l::A::bD d [Pb b]::L) i:=Sep.ex.2 ⟨x,t.ro 4 [2,3,0,1] rfl⟩;have h2:=(Sep.star.2 h1).ro 3 [2,0,1] rfl;exact(Sep.star.2 h2).swap
 have h1:Sep E (bD d [Pb b]::bD c [Iv g]::eb b l::J 0::L) W:=by
  have h2:=Sep.star.1 h.swap;have p:=(Sep.star.1 (h2.swap))
  exact p.ro 4 [2,0,1,3] rfl
 show Calls P tm #[.func (.yield U) #[] #[],Pb d,Pb c] W _;apply Xg;unfold D9 qD qF qK qL qW qb qd;refine⟨_,h1.cell 0,_,h1.cellAt 1 rfl 0,?_⟩;refine use (kQ (q:=2) h1 rfl) ?_;rintro _ af ⟨rfl,rfl⟩;refine⟨_,rfl,?_⟩;rw[dY];cases hl:dB l g with
 |false=>
  refine⟨λw'=>w'=af,λ_=>0,rfl,?_⟩;rintro _ w2 rfl;refine dQ ⟨rfl,.inl ?_⟩;have:dx l g= []:=by unfold dx;rw[hl];rfl
  rw[this];exact pack (h1.ro 4 [3,0,1,2] rfl)
 |true=>
  obtain⟨n,rfl,x,hx,ah⟩:=jg.1 hl;have Q:=(c2.1 hx).1;rw[PI hl];rw[dY];rw[PI hl]at M;refine⟨λw'=>∃(k:Nat) (x:Int),((x= -1/\k=(chain l n).length)\/∃m:Nat,x=m/\m<l.length/\(chain l n).drop k=chain l m)/\Sep E (bD d [Pb b]::bD c [Iv x]::eb b l::J k::L) w',
   λw'=>match w'.cell? ⟨c,0,none⟩with|some (.int _ x)=>(x+1).toNat|_=>0,⟨0,n,.inr ⟨n,rfl,Q,rfl⟩,h1⟩,?_⟩
  rintro _ w2 ⟨k,x,T,h2⟩;refine eM ⟨x,h2.cellAt 1 rfl 0,?_⟩;rcases T with⟨rfl,rfl⟩|⟨m,rfl,hm,C⟩
  ·refine hq (λt=>absurd t bN) (λ_=>⟨rfl,.inl (pack (h2.ro 4 [3,0,1,2] rfl))⟩)
  ·refine hq (λ_=>?_) (λt=>absurd t bu);refine⟨_,h2.cellAt 1 rfl 0,U,rfl,?_⟩;obtain⟨r,hr⟩:=HI l m;have hk:(chain l n)[k]?=some m:=by
    have:((chain l n).drop k)[0]?=some m:=by rw[C,hr];rfl
    rwa[rm,l2]at this
   have O:(((chain l n).map Int.ofNat).map (Value.int .i64))[k]?=some (Iv (m:Int)):=by
    rw[ez,ez,hk];rfl
   obtain⟨fn,tmps,I,body,F,u⟩:=M _ k _ _ O (h2.ro 4 [3,0,1,2] rfl);refine⟨fn,tmps,I,body,F,u.mono λe ag he=>?_⟩;rcases he with⟨rfl,p⟩|⟨rfl,p⟩
   ·refine⟨true,rfl,dQ ?_⟩;have p:Sep E (bD d [Pb b]::bD c [Iv (m:Int)]::eb b l::J (k+1)::L) ag:=p.ro 4 [1,2,3,0] rfl;refine Dr.i p (λw z=>?_);obtain⟨s,hn,K⟩:=eb.get (z.fr 2 rfl);obtain⟨y,o⟩:∃y,l[m]?=some y:=⟨_,ea hm⟩
    have fin:∀ {w':bI},w'=w->St ⟨c,0,none⟩ (Iv y.up) (λD=>(([]:bA Nat)= []/\((∃(k:Nat) (x:Int),((x= -1/\k=(chain l n).length)\/∃m:Nat,x=m/\m<l.length/\(chain l n).drop k=chain l m)/\Sep E (bD d [Pb b]::bD c [Iv x]::eb b l::J k::L) D)/\
      (match D.cell? ⟨c,0,none⟩with|some (.int _ x)=>(x+1).toNat|_=>0)<(match w2.cell? ⟨c,0,none⟩with|some (.int _ x)=>(x+1).toNat|_=>0)))) w':=by
     rintro _ rfl;refine St.i (z.fr 1 rfl) (by show 0<1;decide) (λV B=>?_);have B:Sep E (bD c [Iv y.up]::bD d [Pb b]::eb b l::J (k+1)::L) V:=B;have Z:V.cell? ⟨c,0,none⟩=some (Iv y.up):=B.cell 0;have aa:w2.cell? ⟨c,0,none⟩=some (Iv (m:Int)):=h2.cellAt 1 rfl 0;rw[Z,aa];have N:(chain l n).drop (k+1)=r:=by rw[<- ru,C,hr];rfl
     refine⟨rfl,⟨k+1,y.up,?_,B.swap⟩,?_⟩
     ·rcases k3 m with j|j
      ·subst j;rw[hw.root]at o;have:=cV o;subst this;rw[aig]at hr C;refine .inl ⟨rfl,?_⟩;have:=eO List.length C;rw[ot]at this;simp at this;omega
      ·have hu:=hw.up m y o j;have S:=sJ hw o j;refine .inr ⟨y.up.toNat,bu,bu,?_⟩;rw[N];rw[hr]at S;exact(List.cons.inj S).2
     ·rcases k3 m with j|j
      ·subst j;rw[hw.root]at o;have:=cV o;subst this;decide
      ·have hu:=hw.up m y o j;show(y.up+1).toNat<((m:Int)+1).toNat;omega
    have H:w.cell? ⟨d,0,none⟩=some (Pb b):=z.cell 0;have a3:w.cell? ⟨c,0,none⟩=some (Iv (m:Int)):=z.cellAt 1 rfl 0;have Y:w.cell? (Addr.add ⟨b,0,none⟩ 0)=some (Sv s):=by rw[cj];exact K.cell 0
    have el:∀ {f:Addr->Prop},(∀a,w.cell? (a.add 0)=some (Iv y.up)->f a)->cF s.p s.n (m:Int) 2 f:=λae=>tO 1 K rfl hn rfl o (λai _ ad=>ae _ (by rw[cj];exact ad 0 bN));repeat' first
     |exact trivial
     |exact fin rfl
     |exact⟨_,H,?_⟩
     |refine⟨_,H,?_⟩
     |refine⟨_,a3,?_⟩
     |refine⟨s,Y,?_⟩
     |refine⟨_,rfl,?_⟩
     |refine el (λa ab=>?_)
     |refine⟨_,ab,?_⟩
     |refine And.intro ?_ ?_
   ·refine⟨false,rfl,eM ⟨rfl,.inr ⟨k,?_,?_⟩⟩⟩;·exact(c2.1 hk).1
    ·exact pack p
def tP:hG P jK=some (8,1,[Iv 0]):=by kernel_rfl
def r4{s:Sl}{q:Nat}{l:bS}{x:Int}(hn:s.n=l.length)(hb:l.length<100000000)(h:Sep E (bD q [Iv x]::bw s 1 (bC l)::L) w){G:Sl->bi9}(g:∀s' a,s'.n=(l++[x]).length->Sep E (bw s' 1 (bC (l++[x]))::L) a->G s' a):
  ∃d:Sl,∃a,Sem.run P (Builtin.append_ #[jK,jK] jK #[Sv s,.slice (some ⟨q,0,none⟩) 1 1]) w=.ok (Sv d) a/\G d a:=by
 have f:=Src.bD (n:=1) (c:=1) h (i:=0) rfl tP rfl (λu hu=>by simp at hu;rw[hu];rfl);have e:bC (l++[x])=bC l++[Iv x]:=by simp[bC]
 refine bw.append h.swap tP rfl f bu (by rw[hn];omega) (λs' a b h1=>?_);refine g s' a (by rw[b,hn];simp) ?_;rw[e];exact(h1.fr 0 rfl).ro 2 [0] rfl
def PK{f:bj6}{fi ca:cf bH}{o:bH->cf bH}{A A':Asn}{xs:bS}(has:∀y,o y=fi++ #[y]++ca)(hf:k6 P f=true)(D:zE P E f o A A' (xs.map (Value.int .i64)))(hb:xs.length<1000000)(h:Sep E (A::L) w):
  Calls P yK #[.func (.func f) fi ca] w (cC λv w'=>∃s:Sl,v=Sv s/\s.n=xs.length/\Sep E (bw s 1 (bC xs)::A'::L) w'):=by
 apply WO;unfold Lu qJ;refine use (K:=λv w'=>∃s:Sl,v=Sv s/\s.n=xs.length/\Sep E (bw s 1 (bC xs)::A'::L) w') ?_ ?_;rotate_left
 ·rintro _ B ⟨s,rfl,hn,h1⟩;exact⟨s,rfl,s,rfl,hn,h1⟩
 apply Xa ⟨none,0,0⟩;unfold D8 qc;refine Al.i h (λp B h1=>?_);have h1:Sep E (fo (λs:Sl=>cL (s.n=0) (star (bD p [Sv s]) (bw s 1 (bC []))))::A::L) B:=
  Sep.ex.2 ⟨⟨none,0,0⟩,Sep.cL.2 ⟨rfl,Sep.star.2 (bw.none_ (m:=1) h1).swap⟩⟩
 refine iJ.iO has (τ:=fV) (ρ:=gZ) (cD:=cD) (An:=tv) (yl:=Ea) mixed bN bN Xc hf D
  (λk=>fo λs:Sl=>cL (s.n=(xs.take k).length) (star (bD p [Sv s]) (bw s 1 (bC (xs.take k))))) (λ_=>cL False emp) ?_ h1 ?_ ?_
 ·intro l r L' k x W R c g hx a u _;obtain⟨y,n,rfl⟩:∃y,xs[k]?=some y/\x=Iv y:=by
   rw[ez]at hx;cases hk:xs[k]? with
   |none=>rw[hk]at hx;cases hx
   |some y=>rw[hk]at hx;exact⟨y,rfl,(cV hx).symm⟩
  have I:=(c2.1 n).1;refine(Xb ⟨none,0,0⟩ _ ⟨p,0,none⟩ y l W R).mpr ?_;unfold Ml qC qc;refine lI.i a c (λw2 h2=>?_);obtain⟨s,h2⟩:=Sep.ex.1 h2.swap;obtain⟨hn,h2⟩:=Sep.cL.1 h2;have h2:=Sep.star.1 h2;refine⟨s,h2.cell 0,Al.i h2 (λq F d=>?_)⟩;have i:Sep E (bD q [Iv y]::bw s 1 (bC (xs.take k))::bD p [Sv s]::da l (.loop {r with state:=.busy})::L') F:=d.ro 4 [0,2,1,3] rfl;refine r4 hn (by rw[gT];omega) i (λs' J z C=>?_);refine St.i C.swap (by show 0<1;decide) (λG j=>?_);have j:Sep E (bD p [.slice s'.p s'.n s'.c]::bw s' 1 (bC (xs.take k++[y]))::da l (.loop {r with state:=.busy})::L') G:=j;refine fg.i (j.ro 3 [2,0,1] rfl) (λH t=>?_);have e:({ {r with state:=.busy} with state:=if(none:bX Code).isNone then .ready else .done,pending:=none} :Loop)=r:=by
   cases r;simp only at c g;subst c g;rfl
  rw[e]at t;refine u H (Sep.swap (Sep.ex.2 ⟨s',Sep.cL.2 ⟨?_,?_⟩⟩));·rw[z,l0,n];rfl
  ·rw[l0,n];exact Sep.star.2 (t.ro 3 [1,2,0] rfl)
 ·intro b W a;obtain⟨s,h2⟩:=Sep.ex.1 a.swap;obtain⟨hn,h2⟩:=Sep.cL.1 h2;have h2:=Sep.star.1 h2;rw[dY,fB]at hn h2;have d:Sep E (da b (.deferred (some []))::bw s 1 (bC xs)::bD p [Sv s]::A'::L) W:=h2.ro 3 [2,1,0] rfl;have i:=(d.putObj (o':=.deferred none)).tail;exact⟨s,h2.cell 0,d.dw,s,rfl,hn,i.ro 2 [0] rfl⟩
 ·intro b k W _ a;exact(Sep.cL.1 a.swap).1.elim
def aFP{f:bj6}{ca:cf bH}{A A':Asn}{xs:bS}(hf:k6 P f=true)(a:Er P E f ca A A' (xs.map (Value.int .i64)))(hb:xs.length<1000000)(h:Sep E (A::L) w):
  Calls P yK #[.func (.func f) #[] ca] w (cC λv w'=>∃s:Sl,v=Sv s/\s.n=xs.length/\Sep E (bw s 1 (bC xs)::A'::L) w'):=PK (fi:= #[]) (λy=>by simp) hf a hb h
def v7:k6 P tm=true:=by kernel_rfl
def v8{b:Nat}{g:Int}(h:Sep E L w):Calls P CL #[Pb b,Iv g] w (cC λv w'=>∃a c,v=.func (.func tm) #[] #[Pb a,Pb c]/\
  Sep E (bD a [Pb b]::bD c [Iv g]::L) w'):=by
 apply WQ;unfold Lv qC;exact Al.i h (λa d h1=>Al.i h1 (λc w2 h2=>⟨a,c,rfl,h2.swap⟩))
def qS{l:bA G}(hw:WF l)(g:Int):(dx l g).length<=64:=by
 unfold dx;split
 ·next h=>
  obtain⟨n,rfl,x,hx,_⟩:=jg.1 h;have a:=(c2.1 hx).1;rw[dY,dt];have:=(Bp hw n a).2;have:=hw.eI;omega
 ·simp
def tQ{b:Nat}{l:bA G}{g:Int}(hw:WF l)(h:Sep E (eb b l::L) w):Calls P rW #[Pb b,Iv g] w (cC λv w'=>∃s:Sl,v=Sv s/\s.n=(dx l g).length/\
  Sep E (bw s 1 (bC (dx l g))::eb b l::L) w'):=by
 apply WE;unfold Ll qJ qN;refine use (v8 h) ?_;rintro _ i ⟨e,f,rfl,h1⟩;refine⟨_,rfl,?_⟩;have h2:Sep E (star (bD e [Pb b]) (star (bD f [Iv g]) (eb b l))::L) i:=by
  have a:=Sep.star.2 (h1.ro 3 [1,2,0] rfl);exact Sep.star.2 a.swap
 refine use (aFP v7 (PJ hw) (by have:=qS hw g;omega) h2) ?_;rintro _ w2 ⟨s,rfl,hn,a⟩;refine⟨s,rfl,s,rfl,hn,?_⟩;have c:=Sep.star.1 a.swap;have d:=Sep.star.1 c.swap;exact d.ro 4 [3,1] rfl
def aJ3{b:Nat}{l:bA G}{g:Int}(hw:WF l)(h:Sep E (eb b l::L) w):Calls P Df #[Pb b,Iv g] w (cZ E (Iv (HJ l g)) (eb b l::L)):=by
 apply XU;unfold Eb qC qD qN;refine Al.i h (λp C h1=>?_);refine St.i h1 (by show 0<1;decide) (λw2 h2=>?_);have h2:Sep E (bD p [Iv (-1)]::eb b l::L) w2:=h2;refine use (v8 h2) ?_;rintro _ A ⟨u,z,rfl,q⟩;refine⟨_,rfl,?_⟩;have hlen:=qS hw g;have s:Sep E (bD p [Iv (((0:Nat):Int)-1)]::star (bD u [Pb b]) (star (bD z [Iv g]) (eb b l))::L) A:=by
  have c:=Sep.star.2 (q.ro 4 [1,3,0,2] rfl);exact(Sep.star.2 c.swap).swap
 refine iJ.i (τ:=fV) (ρ:=gZ) (cD:=cD) (An:=tw) (yl:=Ee) mixed bN bN XW v7 (PJ hw)
  (λk=>bD p [Iv ((k:Int)-1)]) (λ_=>cL False emp) ?_ s ?_ ?_
 ·intro t r L' k x W R d j hx a m _;have hk:k<(dx l g).length:=by have:=(c2.1 hx).1;rwa[dY]at this
  obtain⟨y,rfl⟩:∃y,x=Iv y:=by
   rw[ez]at hx;cases hk:(dx l g)[k]? with
   |none=>rw[hk]at hx;cases hx
   |some y=>rw[hk]at hx;exact⟨y,(cV hx).symm⟩
  refine(XV _ g ⟨p,0,none⟩ _ y t W R).mpr ?_;unfold MV qD;refine lI.i a d (λD c=>?_);refine⟨_,c.cellAt 1 rfl 0,?_⟩;refine St.i c.swap (by show 0<1;decide) (λF f=>?_);have o:i64.wrap ((k:Int)-1+1)=((k+1:Nat):Int)-1:=by rw[cX bu bu];omega
  rw[o]at f;refine fg.i f.swap (λB i=>?_);have e:({ {r with state:=.busy} with state:=if(none:bX Code).isNone then .ready else .done,pending:=none} :Loop)=r:=by
   cases r;simp only at d j;subst d j;rfl
  rw[e]at i;exact m B i
 ·intro n W a;rw[dY]at a;have c:=(a.putObj (o':=.deferred none)).tail;refine⟨_,a.cellAt 1 rfl 0,a.dw,rfl,?_⟩;have f:=Sep.star.1 c.tail;have i:=Sep.star.1 f.swap;exact i.ro 3 [1] rfl
 ·intro n k W _ a;exact(Sep.cL.1 a.swap).1.elim
end Go.Mp
namespace Go.Kv
open Go Go.Vc Go.Sp
def kR:(n:Nat)->RT n->Nat->bA Nat
 |0,ws,a=>(List.range 16).flatMap λd=>if(List.getD (ws:bA (bX Nat)) d none).isSome then[a*16+d]else[]
 |n+1,ks,a=>(List.range 16).flatMap λd=>match List.getD (ks:bA (bX (Nat×RT n))) d none with
  |none=>[]
  |some (_,s)=>kR n s (a*16+d)
def h3:(n:Nat)->RT n->Nat->Nat->bA Nat
 |0,ws,a,d=>if(List.getD (ws:bA (bX Nat)) d none).isSome then[a*16+d]else[]
 |n+1,ks,a,d=>match List.getD (ks:bA (bX (Nat×RT n))) d none with
  |none=>[]
  |some (_,s)=>kR n s (a*16+d)
def r5(n:Nat)(t:RT n)(a:Nat):kR n t a=(List.range 16).flatMap (h3 n t a):=by cases n<;>rfl
def slot:(n:Nat)->RT n->Nat->Bool
 |0,ws,d=>(List.getD (ws:bA (bX Nat)) d none).isSome
 |n+1,ks,d=>(List.getD (ks:bA (bX (Nat×RT n))) d none).isSome
end Go.Kv
namespace Go.Mp
open Go Go.Vc Go.Sp Go.Proofs Go.Kc Go.Kv
variable{E:Env}{L:cr}{w W:bI}
def PL{n d a:Nat}{t:RT n}(h:slot n t d=false):h3 n t a d= []:=by
 cases n with
 |zero=>
  have h:(List.getD (t:bA (bX Nat)) d none).isSome=false:=h;show(if(List.getD (t:bA (bX Nat)) d none).isSome then[a*16+d]else[])= []
  rw[h];rfl
 |succ n=>
  have h:(List.getD (t:bA (bX (Nat×RT n))) d none).isSome=false:=h;show(match List.getD (t:bA (bX (Nat×RT n))) d none with|none=>[]|some (_,s)=>kR n s (a*16+d))= []
  cases hk:List.getD (t:bA (bX (Nat×RT n))) d none with
  |none=>rfl
  |some y=>rw[hk]at h;cases h
def PM{n d:Nat}{t:RT n}(a:RT.ok n t)(b:d<16):∃h:Nat,h<65536/\(RT.vs n t)[32]?=some (.int .u16 (h:Int))/\h/2^d%2=if slot n t d then 1 else 0:=by
 have gd:∀ {α:Type} (l:bA (bX α)),(l.map Option.isSome).getD d false=(l.getD d none).isSome:=by
  intro α l;rw[dC,ez,dC];cases l[d]? with
  |none=>rfl
  |some y=>rfl
 cases n with
 |zero=>
  obtain⟨ws,rfl⟩:∃ws:bA (bX Nat),ws=t:=⟨t,rfl⟩
  have hl:ws.length=16:=a;refine⟨hasB (ws.map Option.isSome),?_,pj oE hl,?_⟩
  ·have:=pb (ws.map Option.isSome);rw[dY,hl]at this;exact this
  ·rw[vu,gd];rfl
 |succ n=>
  obtain⟨ks,rfl⟩:∃ks:bA (bX (Nat×RT n)),ks=t:=⟨t,rfl⟩
  have hl:ks.length=16:=a.1;refine⟨hasB (ks.map Option.isSome),?_,pj (by rw[dY];exact hl) oE,?_⟩
  ·have:=pb (ks.map Option.isSome);rw[dY,hl]at this;exact this
  ·rw[vu,gd];rfl
def PN{a d:Nat}(c:a<4096)(f:d<16):ji .i64 (i64.wrap ((a:Int)*2^(min (4:Int).toNat 64))) (d:Int)=((a*16+d:Nat):Int):=by
 have e:i64.wrap ((a:Int)*2^(min (4:Int).toNat 64))=((a*16:Nat):Int):=by
  rw[show((a:Int)*2^(min (4:Int).toNat 64))=((a*16:Nat):Int) by rw[uO];rfl];exact cX bu bu
 rw[e];have h1:(BitVec.ofInt 64 ((a*16:Nat):Int) ||| BitVec.ofInt 64 (d:Int)).toNat=a*16+d:=by
  rw[BitVec.toNat_or,rl,rl,uG,uG,mZ bu,mZ bu];have:=G0 (i:=4) (b:=d) bu a;rw[xG a 16];exact this.symm
 show i64.wrap ((BitVec.ofInt 64 ((a*16:Nat):Int) ||| BitVec.ofInt 64 (d:Int)).toNat:Int)=_;rw[h1];exact cX bu bu
def aIa{n b d a:Nat}{t:RT (n+1)}{s:RT n}(hk:g1 t d=some (a,s))(L:cr):(dR (n+1) b t++L).Perm (dR n a s++(bD b (RT.vs (n+1) t)::(ko n (t:bA (bX (Nat×RT n))) d++L))):=by
 obtain⟨ks,rfl⟩:∃ks:bA (bX (Nat×RT n)),ks=t:=⟨t,rfl⟩
 have c:ks[d]?=some (some (a,s)):=by
  have h1:ks.getD d none=some (a,s):=hk;rw[dC]at h1;cases h2:ks[d]? with
  |none=>rw[h2]at h1;cases h1
  |some y=>rw[h2]at h1;exact eO some h1
 show((bD b (RT.vs (n+1) ks)::List.flatMap (ff n) ks)++L).Perm _;rw[ta c];unfold ko;show((bD b (RT.vs (n+1) ks)::(List.flatMap (ff n) (ks.take d)++(dR n a s++List.flatMap (ff n) (ks.drop (d+1)))))++L).Perm _;generalize List.flatMap (ff n) (ks.take d)=A;generalize List.flatMap (ff n) (ks.drop (d+1))=B;generalize dR n a s=C;generalize bD b (RT.vs (n+1) ks)=X;simp only[pK,dp];refine(List.Perm.cons X ?_).trans jo.symm;have h1:=sC (B++L) (mu (l₁:=A) (l₂:=C));rwa[dp,dp]at h1
def tR{n b d a:Nat}{t:RT (n+1)}{s:RT n}(hk:g1 t d=some (a,s))(J:Asn)(L:cr):(dR (n+1) b t++J::L).Perm (dR n a s++J::(bD b (RT.vs (n+1) t)::(ko n (t:bA (bX (Nat×RT n))) d++L))):=
 (aIa hk (J::L)).trans (oR _ (jo (l₁:=bD b (RT.vs (n+1) t)::ko n (t:bA (bX (Nat×RT n))) d)))
def wa{α:Type}(f:Nat->bA α)(d:Nat):(List.range (d+1)).flatMap f=(List.range d).flatMap f++f d:=by
 rw[List.range_succ,xx];simp
def PO{α:Type}(f:Nat->bA α){d n:Nat}(h:d<n):∃r,(List.range n).flatMap f=(List.range d).flatMap f++(f d++r):=by
 induction n with
 |zero=>omega
 |succ n a=>
  rw[wa];by_cases e:d=n;·subst e;exact⟨[],by rw[g3]⟩
  ·obtain⟨r,hr⟩:=a bu;exact⟨r++f n,by rw[hr];simp⟩
def aKm:∀(m:Nat) {b a k0 l:Nat} {t:RT m} {xs:bA bH} {J X:Nat->Asn} {L:cr} {w:bI},m<=3->RT.ok m t->a<16^(3-m)->(∀i p,(kR m t a)[i]?=some p->xs[k0+i]?=some (Iv (p:Nat)))->
  (∀k x W,xs[k]?=some x->Sep E (dR m b t++J k::L) W->YieldAt Fence.wide 0 P l #[x] W (λe N=>(e=.returned (.bool true)/\Sep E (dR m b t++J (k+1)::L) N)\/(e=.returned (.bool false)/\Sep E (dR m b t++X k::L) N)))->
  Sep E (dR m b t++J k0::L) w->
  Calls P yT #[Pb b,Iv ((3-m:Nat):Int),Iv (a:Nat),.func (.yield l) #[] #[]] w (cC λv w'=>
   (v=.bool true/\Sep E (dR m b t++J (k0+(kR m t a).length)::L) w')\/(v=.bool false/\∃k,k<k0+(kR m t a).length/\Sep E (dR m b t++X k::L) w')):=by
 intro m;induction m with
 |zero=>
  intro b a k0 l t xs J X L w hm H O I M h;apply Po;unfold z7 qF qO qb;have C:a<4096:=O;refine⟨λx w'=>∃d:Nat,x=d/\d<=16/\Sep E (dR 0 b t++J (k0+((List.range d).flatMap (h3 0 t a)).length)::L) w',λx _=>(16-x).toNat,⟨0,rfl,bu,h⟩,?_⟩;rintro _ _ ah ⟨d,rfl,ae,h1⟩;refine cU (λU=>?_) (λS=>?_)
  ·have c:d<16:=by omega
   obtain⟨hb,R,D,F⟩:=PM H c;have G:=qv (j:=32) h1;rw[D]at G;refine⟨bN,_,rfl,_,by rw[cj,fz];exact G,by rw[dA];omega,?_⟩;rw[dA (n:=d) bu,dt,show min d 16=d by omega,sh,r2,F];have g:((16:Int)-((d+1:Nat):Int)).toNat<((16:Int)-(d:Int)).toNat:=by omega
   cases f:slot 0 t d with
   |false=>
    refine bT rfl ⟨rfl,?_,?_⟩
    ·refine⟨d+1,c4,bu,?_⟩;rw[wa,PL f,g3];exact h1
    ·rw[c4];exact g
   |true=>
    refine bF rfl (bF rfl ⟨l,rfl,?_⟩);rw[PN C c];have o:h3 0 t a d= [a*16+d]:=by
     have f:(List.getD (t:bA (bX Nat)) d none).isSome=true:=f;show(if(List.getD (t:bA (bX Nat)) d none).isSome then[a*16+d]else[])=_;rw[f];rfl
    obtain⟨r,hr⟩:=PO (h3 0 t a) c;rw[<- r5,o]at hr;have hx:=I ((List.range d).flatMap (h3 0 t a)).length (a*16+d) (by rw[hr,fL (ec _),iE];rfl);obtain⟨fn,tmps,B,body,A,u⟩:=M _ _ _ hx h1;refine⟨fn,tmps,B,body,A,u.mono λe Z he=>?_⟩;rcases he with⟨rfl,z⟩|⟨rfl,z⟩
    ·refine⟨true,rfl,bF rfl ⟨rfl,⟨d+1,c4,bu,?_⟩,?_⟩⟩
     ·rw[wa,o,df];exact z
     ·rw[c4];exact g
    ·refine⟨false,rfl,bT rfl (.inr ⟨rfl,_,?_,z⟩)⟩;rw[hr,df,df,mx];omega
  ·have:d=16:=by omega
   subst this;rw[<- r5]at h1;exact .inl ⟨rfl,h1⟩
 |succ m ag=>
  intro b a k0 l t xs J X L w hm H O I M h;apply Po;unfold z7 qF qO qb;have C:a<4096:=by
   have:(16:Nat)^(3-(m+1))<=16^3:=uD bN bu;have e:(16:Nat)^3=4096:=rfl;omega
  refine⟨λx w'=>∃d:Nat,x=d/\d<=16/\Sep E (dR (m+1) b t++J (k0+((List.range d).flatMap (h3 (m+1) t a)).length)::L) w',λx _=>(16-x).toNat,⟨0,rfl,bu,h⟩,?_⟩;rintro _ _ ah ⟨d,rfl,ae,h1⟩;refine cU (λU=>?_) (λS=>?_)
  ·have c:d<16:=by omega
   obtain⟨hb,R,D,F⟩:=PM H c;have G:=qv (j:=32) h1;rw[D]at G;refine⟨bN,_,rfl,_,by rw[cj,fz];exact G,by rw[dA];omega,?_⟩;rw[dA (n:=d) bu,dt,show min d 16=d by omega,sh,r2,F];have g:((16:Int)-((d+1:Nat):Int)).toNat<((16:Int)-(d:Int)).toNat:=by omega
   cases f:slot (m+1) t d with
   |false=>
    refine bT rfl ⟨rfl,?_,?_⟩
    ·refine⟨d+1,c4,bu,?_⟩;rw[wa,PL f,g3];exact h1
    ·rw[c4];exact g
   |true=>
    have f:(g1 t d).isSome=true:=f;cases hk:g1 t d with
    |none=>rw[hk]at f;cases f
    |some y=>
    obtain⟨Y,s⟩:=y;have V:=vX H c;rw[hk]at V;have K:=qv (j:=d) h1;rw[V]at K;refine bF rfl (bT (by rw[gD];omega) ⟨_,rfl,_,rfl,⟨bu,bu⟩,?_⟩);rw[cj,cj,dt,show 0+0+d*1=d by omega];refine⟨_,K,?_⟩;have o:h3 (m+1) t a d=kR m s (a*16+d):=by
     have hk:List.getD (t:bA (bX (Nat×RT m))) d none=some (Y,s):=hk;show(match List.getD (t:bA (bX (Nat×RT m))) d none with|none=>[]|some (_,s)=>kR m s (a*16+d))=_;rw[hk]
    obtain⟨r,hr⟩:=PO (h3 (m+1) t a) c;rw[<- r5,o]at hr;have aa:i64.wrap (((3-(m+1):Nat):Int)+1)=((3-m:Nat):Int):=by rw[c4];omega
    have Q:a*16+d<16^(3-m):=by
     have e:(16:Nat)^(3-m)=16^(3-(m+1))*16:=by rw[<- ry];congr 1;omega
     rw[e];omega
    rw[aa,PN C c];have T:=h1.perm (tR hk _ _);refine use (ag (b:=Y) (a:=a*16+d) (t:=s) (xs:=xs) (X:=X) bu (Aa H hk) Q (λi p hp=>?_) (λk x W hx ad=>?_) T) ?_
    ·rw[uR];refine I _ p ?_;rw[hr,fL bu,sB];have af:=(c2.1 hp).1;rw[eQ af];exact hp
    ·obtain⟨fn,tmps,B,body,A,u⟩:=M k x W hx (ad.perm (tR hk _ _).symm);exact⟨fn,tmps,B,body,A,u.mono λe Z he=>he.imp (λq=>⟨q.1,q.2.perm (tR hk _ _)⟩) (λq=>⟨q.1,q.2.perm (tR hk _ _)⟩)⟩
    ·rintro _ Z (⟨rfl,z⟩|⟨rfl,k,ai,z⟩)
     ·have ab:=z.perm (tR hk _ _).symm;refine⟨true,rfl,bF rfl ⟨rfl,⟨d+1,c4,bu,?_⟩,?_⟩⟩
      ·rw[wa,o,df,<- uR];exact ab
      ·rw[c4];exact g
     ·refine⟨false,rfl,bT rfl (.inr ⟨rfl,k,?_,z.perm (tR hk _ _).symm⟩)⟩;rw[hr,df,df];omega
  ·have:d=16:=by omega
   subst this;rw[<- r5]at h1;exact .inl ⟨rfl,h1⟩
end Go.Mp
