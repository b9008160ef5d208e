/- A part of the proof. -/
import Derived.Test.YtafigbgagbolgaaGreatDoorE01
import Derived.Lib.TrailingZeros
import Derived.ProofKit
import Derived.OpenVars
import Derived.Shelf.SlIterI.Nil
import Derived.Shelf.SortM.Plain
import Derived.Shelf.SortM.SortNone
set_option linter.all false
set_option maxRecDepth 100000
open Go.IntKind(i64 u64)
open Go.Proofs.Tryz
namespace Go.Mp
open Go Go.Vc Go.Proofs
variable{K:bf9}{w:bI}
variable(K w)
def Lb(a:Sl)(x:Int):=
 qp Cn #[Sv a] w λj s e=>qg (λk=>dN s (K (.tuple #[aN8,Iv 1]) e) (eg j 64 (0<=(u64.wrap j)/\cond ((x.fdiv (2^(min (u64.wrap j).toNat 64))) !=0) (K (.tuple #[aN8,Iv 1]) e) (k e)) (k e))) λr=>zV x ⟨none,0,0⟩ 0 r λq h f c b=>fD c a.n (qW a c 1 λl=>qD b l λd=>zU Co #[Iv d] b λp n=>qC #[Iv (i64.wrap (dm .u64 h p))] n λm o=>∃i:Sl,∃g:bI,Sem.run P (Builtin.append_ #[22,22] 22 #[Sv f,.slice (some m) 1 1]) o=.ok (Sv i) g/\0<=(u64.wrap d)/\(q (h.fdiv (2^(min (u64.wrap d).toNat 64))) i (i64.wrap (c+1)) g)) (K (.tuple #[Sv f,Iv 0]) b)
def CW(t:ch)(g:Int):=
 qC #[Iv 0] w λa w2=>St a (Iv (-1)) (λe=>qN Bv #[Pv t,Iv g] e λd f=>iB P 13 d #[9] (j9 f169.body) (ka f169.body) .ret (((((((ji [Pv t,Iv g] 0 .nil).put (some 4) (Iv 0)).put (some 5) (Pv (some a))).put (some 6) (Pv t)).put (some 7) (Iv g)).put (some 8) d)) f (λb7 b=>qD b a λh=>b.heap[b7]?=some (.deferred (some []))/\K (Iv h) (b.putObj b7 (.deferred none))) (λb8 c=>c.heap[b8]?=some (.deferred (some []))/\K (Iv 0) (c.putObj b8 (.deferred none)))) w2
def Lc(t:ch)(g:Int):=
 Al (.cells #[Pv t] 62) (λa w2=>qC #[Iv g] w2 λd b=>qb b a λi=>qD b d λj=>qF kb #[Pv i,Iv j] b λk c=>dN k (K (aN8) c) (qb c a λf=>qJ B7 #[Pv f,(.func (.func Cp) #[] #[Pv (some a),Pv (some d)])] c λh e=>K (Sv h) e)) w
def Ld(s:Sl)(del:bE):=
 qQ Cq #[Sv s,del] w λg l=>cond (g==(-1)) (K (Sv s) l) (qI g (i64.wrap (g+1)) l λh i8 a f=>fD a s.n (qW s a 1 λi=>qD f i λd=>e1 P del #[Iv d] f λk b=>∃e,k=.returned (.bool e)/\dN e (qW s i8 1 λj=>St j (Iv d) (λm=>(h (i64.wrap (i8+1)) (i64.wrap (a+1)) m)) b) ((h i8 (i64.wrap (a+1)) b))) (((0:Int)<=i8/\i8<=((s.n:Nat):Int))/\∃c:bI,Sem.run P (Builtin.clear_ #[22] 0 #[.slice (gi s.p i8.toNat s.c 1) (s.n-i8.toNat) (s.c-i8.toNat)]) f=.ok (.tuple #[]) c/\((0:Int)<=i8/\i8<=((s.c:Nat):Int))/\K (.slice (gi s.p 0 s.c 1) (i8.toNat-0) (s.c-0)) c))
def Le(id:Int)(c b:Addr):=
 Dr (λa=>qb a c λf=>NN f λa3=>qM a a3 0 λg=>∃d:ch,gp P 117 (.map g) (Iv id) false a (Pv d)/\NN d λe=>qL a e 4 λh=>qD a b λi=>K (.bool (h !=i)) a) w
def CX(t:ch)(id:Int)(jo:bE):=
 NN t λb=>qM w b 0 λe=>∃a:ch,gp P 117 (.map e) (Iv id) false w (Pv a)/\cond a.isNone (K (Iv 2) w) (e1 P jo #[Pv a] w λc d=>c=.returned (.tuple #[])/\K (Iv 0) d)
def Lf(p:ch)(a:Addr):=
 qD w a λd=>NN p λb=>St (b.add 4) (Iv d) (λc=>K aN4 c) w
def Lg(l:ch)(group:Int)(change:bE):=
 NN l λQ=>qM w Q 0 λR=>∃e:ch,∃B:bI,Sem.run P (Instr.range 140 (.map R)) w=.ok (Pv e) B/\qO 0 B λt n9 C=>(∃k:bI,Sem.run P (Instr.next (Pv e) false 0) C=.ok (.tuple #[.bool false]) k/\K (Iv n9) k)\/(∃v:bE,∃x:bE,∃m:bI,Sem.run P (Instr.next (Pv e) false 0) C=.ok (.tuple #[.bool true,v,x]) m/\∃g:Int,∃i:Int,∃j:Int,∃n:bI,Sem.run P (Instr.entry (Pv e)) m=.ok (.tuple #[Iv g,.agg #[Iv i,Iv j]]) n/\qw n λb y=>qU [Iv i,Iv j] b y λo=>zZ o b λD E=>e1 P change #[.agg #[Iv D,Iv E]] o λu z=>∃r:Int,∃s:Int,u=.returned (.agg #[Iv r,Iv s])/\qw z λc A=>qU [Iv r,Iv s] c A λa=>qh (λf=>qL a b 0 λG=>cond (G==group) (zZ a b λH I=>zZ a c λJ L=>∃h:Bool,kl P .neq 239 (.agg #[Iv H,Iv I]) (.agg #[Iv J,Iv L]) h/\f h a) (f false a)) λF p=>cond F (Dr (λd=>NN l λa41=>qM d a41 0 λM=>zZ d c λN O=>∃q:bI,Sem.run P (Instr.mapUpdate 140 (.map M) (Iv g) (.agg #[Iv N,Iv O])) d=.ok () q/\(t (i64.wrap (n9+1)) q)) p) ((t n9 p)))
def Lh(e f:Int)(b:Addr):=
 Al (.cells #[Iv e,Iv f] 239) (λg w2=>qw w2 λc a=>qD a b λj=>qL a g 1 λk=>qU [Iv j,Iv k] c a λd=>zZ d c λh i=>K (.agg #[Iv h,Iv i]) d) w
def Li(chain:Sl)(n:Int):=
 zK w λg w2=>qO 0 w2 λm c b=>fD c chain.n (qW chain c 1 λo=>qD b o λd=>qF xx #[Iv d] b λj a=>dN j (K aN2 a) (cK (some g) 64 d 1 λe=>qm a e λk=>cond k (K aN2 a) (cK (some g) 64 d 1 λf=>St f (.bool true) (λh=>(m (i64.wrap (c+1)) h)) a))) (qF B6 #[Iv n] b λl i=>K (.bool l) i)
def Lj(c:ch)(chain:Sl)(is:bE):=
 qO 0 w λl e a=>fD e chain.n (qW chain e 1 λm=>qD a m λk=>NN c λn=>cK (some (n.add 0)) 64 k 4 λa9=>qA a a9 λg h i j=>e1 P is #[.agg #[Iv g,Iv h,Iv i,Iv j]] a λf b=>∃d,f=.returned (.bool d)/\cond d (K (Iv k) b) ((l (i64.wrap (e+1)) b))) (K (Iv (-1)) a)
def Lk(b c d e:Int)(a:Addr):=
 Al (.cells #[Iv b,Iv c,Iv d,Iv e] 107) (λf w2=>qL w2 f 0 λg=>qD w2 a λh=>K (.bool (decide (g<h))) w2) w
def Ll(n:Int):=
 cond (decide ((0:Int)<=n)) (K (.bool (decide (n<=1099511627776))) w) (K aN2 w)
def Lm(t:ch)(is:bE):=
 NN t λs=>qK w s 0 λu=>qf ⟨none,0,0⟩ 0 w λh g a b=>fD a u.n (qh (λi=>NN t λj=>qK b j 0 λq=>qW q a 2 λk=>qy b k 1 λr=>cond r (e1 P is #[Iv a] b λl n=>∃e,l=.returned (.bool e)/\i e n) (i false b)) λp c=>cond p (qC #[Iv a] c λm o=>∃f:Sl,∃d:bI,Sem.run P (Builtin.append_ #[22,22] 22 #[Sv g,.slice (some m) 1 1]) o=.ok (Sv f) d/\(h f (i64.wrap (a+1)) d)) ((h g (i64.wrap (a+1)) c))) (K (Sv g) b)
def Ln(x:Int)(c a:Addr):=
 Dr (λb=>qb b c λh=>qD b a λf=>qJ q7 #[Pv h,Iv x] b λi d=>zG d a (Iv f) λj=>qF py #[Sv i,Iv f] d λe g=>K (.bool e) g) w
def xZ(s:Sl)(v:Int):=
 qQ uK #[Sv s,Iv v] w λb a=>K (.bool (decide (b≥0))) a
def Lo(d e:Int):=
 Al (.cells #[Iv d,Iv e] 239) (λf w2=>qw w2 λa b=>zZ b f λi j=>qU [Iv i,Iv (min1 (i64.wrap (j+1)) 3)] a b λc=>zZ c a λg h=>K (.agg #[Iv g,Iv h]) c) w
def Lp(l:Sl)(target:Int):=
 qg (λar=>qF Cr #[Sv l] w λau o=>dN au (K (aN8) o) (eg target 0 (K (aN8) o) (cond (decide (target≥((l.n:Nat):Int))) (K (aN8) o) (ar o)))) λw2=>∃p:Sl,∃N:bI,Sem.run P (Instr.makeSlice 22 (Iv ((l.n:Nat):Int)) (Iv ((l.n:Nat):Int))) w2=.ok (Sv p) N/\((0:Int)<=1/\1<=((l.n:Nat):Int))/\qO 0 N λaq m i=>cond (decide (m<(((l.n-(1:Int).toNat):Nat):Int))) (cK (gi l.p ((1:Int).toNat) l.c 3) (l.n-(1:Int).toNat) m 3 λA=>ql i A λR S T=>qi i λf H=>qU [Iv R,Iv S,Iv T] f H λI=>Dr (λg=>qL g f 0 λn=>qW p n 1 λa23=>qD g a23 λx=>ql g f λU V W=>qQ Ct #[.agg #[Iv U,Iv V,Iv W]] g λX j=>zG j a23 (Iv x) λav=>zH j f 0 (Iv n) λaw=>qW p n 1 λa33=>St a33 (Iv (i64.wrap (x+X))) (λJ=>(aq (i64.wrap (m+1)) J)) j) I) (∃c:Sl,∃r:bI,Sem.run P (Instr.makeSlice 22 (Iv ((l.n:Nat):Int)) (Iv ((l.n:Nat):Int))) i=.ok (Sv c) r/\qO 0 r λe a k=>fD a l.n (qW l a 3 λB=>ql k B λY Z aa=>qi k λd L=>qU [Iv Y,Iv Z,Iv aa] d L λs=>qg (λz=>cond (a==target) ((e (i64.wrap (a+1)) s)) (qF xM #[Sv l,Iv a,Iv target] s λab u=>dN ab ((e (i64.wrap (a+1)) u)) (z u))) λt=>ql t d λad ae af=>qQ Ct #[.agg #[Iv ad,Iv ae,Iv af]] t λag M=>qW c a 1 λC=>St C (Iv ag) (λb=>qL b d 0 λah=>qW p ah 1 λa64=>qD b a64 λy=>qh (λq=>qL b d 0 λaj=>cond (aj !=target) (qL b d 0 λak=>qW c ak 1 λD=>qD b D λal=>q (decide (y>al)) b) (q false b)) λai v=>cond ai (Dr (λh=>qW c a 1 λE=>qD h E λam=>qL h d 0 λan=>qW c an 1 λF=>qD h F λao=>qQ Ja #[Iv am,Iv ao,Iv y] h λap O=>qW c a 1 λG=>St G (Iv ap) (λQ=>(e (i64.wrap (a+1)) Q)) O) v) ((e (i64.wrap (a+1)) v))) M) (K (Sv c) k))
def CY(l dU:Sl)(target g:Int):=
 Al (.cells #[Sv l] 245) (λi w2=>Al (.cells #[Sv dU] 22) (λy H=>Al (.cells #[.bool false] 4) (λa x=>qc x i λF=>qc x y λG=>qF Jb #[Sv F,Sv G,Iv target] x λc e=>dN c (St a (.bool false) (λp=>qm p a λz=>K (.bool z) p) e) (eg g 0 (St a (.bool false) (λq=>qm q a λA=>K (.bool A) q) e) (qc e i λb=>cond (decide (g≥((b.n:Nat):Int))) (St a (.bool false) (λr=>qm r a λB=>K (.bool B) r) e) (qc e i λt=>qF xM #[Sv t,Iv g,Iv target] e λd j=>dN d (St a (.bool false) (λs=>qm s a λC=>K (.bool C) s) j) (qc j i λu=>qN Cu #[Sv u,Iv g,Iv target] j λv D=>iB P 47 v #[36] (j9 f186.body) (ka f186.body) .ret ((((((((((((((((((((((((((((((((((ji [Sv l,Sv dU,Iv target,Iv g] 0 .nil).put (some 4) (Pv (some i))).put (some 5) (Pv (some y))).put (some 8) (Pv (some a))).put (some 10) (Sv F)).put (some 11) (Sv G)).put (some 12) (Iv target)).put (some 13) (.bool c)).put (some 14) (.bool (!c))).put (some 15) (.bool (!c))).put (some 15) (.bool false)).put (some 16) (Iv g)).put (some 17) (.bool (decide (g<0)))).put (some 18) (.bool (decide (g<0)))).put (some 19) (.bool (decide (g<0)))).put (some 19) (.bool false)).put (some 20) (Iv g)).put (some 21) (Sv b)).put (some 22) (Iv ((b.n:Nat):Int))).put (some 23) (.bool (decide (g≥((b.n:Nat):Int))))).put (some 24) (.bool (decide (g≥((b.n:Nat):Int))))).put (some 25) (.bool (decide (g≥((b.n:Nat):Int))))).put (some 25) (.bool false)).put (some 26) (Sv t)).put (some 27) (Iv g)).put (some 28) (Iv target)).put (some 29) (.bool d)).put (some 30) (.bool (!d))).put (some 31) (.bool (!d))).put (some 32) (Sv u)).put (some 33) (Iv g)).put (some 34) (Iv target)).put (some 35) v)) D (λf E=>St a (.bool false) (λm=>m.heap[f]?=some (.deferred (some []))/\∃n:Bool,(m.putObj f (.deferred none)).cell? a=some (.bool n)/\K (.bool n) (m.putObj f (.deferred none))) E) (λh k=>k.heap[h]?=some (.deferred (some []))/\∃o:Bool,(k.putObj h (.deferred none)).cell? a=some (.bool o)/\K (.bool o) (k.putObj h (.deferred none)))))))) H) w2) w
def Lq(n:Int)(weights:Sl):=
 cond (decide ((0:Int)<=n)) (cond (decide (n<=1048576)) (cond (decide (((weights.n:Nat):Int)<=64)) (qF U8 #[Sv weights,(.func (.func Cv) #[] #[])] w λb a=>K (.bool (!b)) a) (K aN2 w)) (K aN2 w)) (K aN2 w)
def Lr(l:Sl):=
 qI 0 0 w λc n5 b a=>fD b l.n (qW l b 1 λd=>qD a d λe=>(c (i64.wrap (n5+e)) (i64.wrap (b+1)) a)) (K (Iv n5) a)
def Ls(n:Int)(weights:Sl):=
 qF Ca #[Iv n,Sv weights] w λQ t=>dN Q (K (aN8) t) (∃d:Sl,∃z:bI,Sem.run P (Instr.makeSlice 22 (Iv ((weights.n:Nat):Int)) (Iv ((weights.n:Nat):Int))) t=.ok (Sv d) z/\qQ uI #[Sv weights] z λN C=>cond (N==0) (K (Sv d) C) (zT ⟨none,0,0⟩ n 0 C λO a b c e=>fD c weights.n (qW weights c 1 λp=>qD e p λD=>zN xN #[.int .u64 (u64.wrap n),.int .u64 (u64.wrap D)] e λE F u=>zN uL #[.int .u64 E,.int .u64 F,.int .u64 (u64.wrap N)] u λG H v=>qW d c 1 λa26=>St a26 (Iv (i64.wrap G)) (λj=>qW d c 1 λa28=>qD j a28 λI=>Al (.cells #[Iv c,.int .u64 H] 302) (λs x=>∃l:Sl,∃k:bI,Sem.run P (Builtin.append_ #[297,297] 297 #[Sv a,.slice (some s) 1 1]) x=.ok (Sv l) k/\(O l (i64.wrap (b-I)) (i64.wrap (c+1)) k)) j) v) (qE Jc #[Sv a,(.func (.func Cw) #[] #[])] e λy=>((0:Int)<=b/\b<=((a.c:Nat):Int))/\qO 0 y λo h f=>cond (decide (h<(((b.toNat-0):Nat):Int))) (cK (gi a.p 0 a.c 2) (b.toNat-0) h 2 λa41=>zM f a41 λJ L=>Al (.cells #[Iv 0,.int .u64 0] 302) (λi A=>qU [Iv J,.int .u64 L] i A λg=>qL g i 0 λm=>qW d m 1 λq=>qD g q λM=>qW d m 1 λr=>St r (Iv (i64.wrap (M+1))) (λB=>(o (i64.wrap (h+1)) B)) g) f) (K (Sv d) f))))
def Lt(l:ch)(a:Sl):=
 Al (.cells #[Pv l] 78) (λc w2=>Al (.cells #[Sv a] 22) (λk d=>qb d c λn=>NN n λj=>qM d j 0 λo=>qN Cx #[.map o] d λh m=>qJ xu #[h] m λi e=>qJ B0 #[Sv i,(.func (.func Je) #[] #[Pv (some k),Pv (some c)])] e λb f=>qE Jf #[Sv b,(.func (.func Jg) #[] #[Pv (some c)])] f λg=>K (Sv b) g) w2) w
def aig(held:bE)(k a:Addr):=
 qc w k λo=>qO 0 w λi d c=>fD d o.n (qW o d 1 λE=>qD c E λD=>qb c a λF=>NN F λj=>qZ c j 10 λp=>qX px #[Pv p,Iv D] c λq r s t u v x y z G m=>qV m λe n=>qU [Iv q,Iv r,Iv s,Iv t,Iv u,Iv v,Iv x,.bool y,.bool z] e n λf=>qL f e 4 λA=>e1 P held #[Iv A] f λl b=>∃h,l=.returned (.bool h)/\dN h (qb b a λB=>qF I0 #[Pv B,Iv D] b λC g=>cond C (K aN3 g) ((i (i64.wrap (d+1)) g))) ((i (i64.wrap (d+1)) b))) (K aN2 c)
def Lu(c:ch)(id:Int):=
 NN c λal=>qZ w al 10 λan=>qX px #[Pv an,Iv id] w λao ap aq ar au z A B C av am=>qV am λa t=>qU [Iv ao,Iv ap,Iv aq,Iv ar,Iv au,Iv z,Iv A,.bool B,.bool C] a t λu=>Dr (λe=>NN c λp=>qZ e p 0 λD=>qL e a 4 λE=>qJ q7 #[Pv D,Iv E] e λn b=>qg (λg=>qL b (a.add 0) 0 λF=>cond (decide (F≥0)) (qY b a λG H I J L M N O Q=>qE BS #[Pv c,Iv id,.agg #[Iv G,Iv H,Iv I,Iv J,Iv L,Iv M,Iv N,.bool O,.bool Q]] b λi=>NN c λa40=>qZ i a40 10 λR=>qQ uG #[Pv R,Iv id,Iv 0,Iv 0] i λaw x=>g x) (qY b a λS T U V W X Y Z aa=>qF Ji #[Pv c,Iv id,.agg #[Iv S,Iv T,Iv U,Iv V,Iv W,Iv X,Iv Y,.bool Z,.bool aa],Sv n] b λab j=>dN ab (K aN2 j) (g j))) λv=>Dr (λf=>NN c λq=>qP f (q.add 1) λad ae af=>qL f a 3 λag=>qE ra #[.agg #[Pv ad,Pv ae,Pv af],Iv ag,Sv n] f λk=>NN c λr=>qZ k r 8 λah=>qQ BT #[Pv ah,Iv id] k λax y=>Dr (λd=>NN c λh=>qM d h 11 λo=>NN c λs=>qZ d s 9 λai=>qL d a 4 λaj=>zU Jj #[Pv ai,Iv aj] d λak l=>zS l h 11 (.map o) λay=>∃m:bI,Sem.run P (Instr.mapUpdate 81 (.map o) (Iv id) (.int .u64 ak)) l=.ok () m/\K aN3 m) y) v) u
def Wx(g:Int)(b a:Addr):=
 qc w b λd=>qW d g 1 λc=>qm w c λe=>cond e (K aN3 w) (qc w a λf=>qW f g 1 λa5=>qm w a5 λh=>K (.bool h) w)
def Wy(g:Int)(a:Addr):=
 qc w a λc=>qW c g 1 λb=>qm w b λd=>K (.bool d) w
def Lv(s:Sl)(f:bE):=
 qO 0 w λj a d=>fD a s.n (qW s a 6 λk=>zR d k λl m n g h i=>e1 P f #[.agg #[Iv l,Iv m,Iv n,Iv g,Iv h,.bool i]] d λe b=>∃c,e=.returned (.bool c)/\cond c (K (Iv a) b) ((j (i64.wrap (a+1)) b))) (K (Iv (-1)) d)
def Lw(c:ch)(id g:Int):=
 NN c λax=>qZ w ax 10 λaz=>qX px #[Pv az,Iv id] w λaA aB aC aD aE L M N O Q ay=>qV ay λb D=>qU [Iv aA,Iv aB,Iv aC,Iv aD,Iv aE,Iv L,Iv M,.bool N,.bool O] b D λh=>qL h b 4 λR=>q9 (λq=>qh (λf=>cond (Q !=0) (f true h) (NN c λa27=>qZ h a27 0 λT=>qF kb #[Pv T,Iv g] h λU e=>dN U (f true e) (qL e b 2 λV=>cond (V==0) (qL e (b.add 0) 0 λW=>f (decide (W<0)) e) (f false e)))) λS d=>cond S (K (.tuple #[Iv (-1),Iv 2]) d) (qL d b 2 λX=>cond (X==1) (NN c λa35=>qZ d a35 8 λY=>qQ xE #[Pv Y,Iv id] d λaF F=>K (.tuple #[Iv (-1),Iv 0]) F) (qL d b 2 λZ=>cond (Z==0) (q g d) (q R d)))) λa E=>zX Cy #[Pv c,Iv a] E λaa ab u l=>cond (u !=0) (K (.tuple #[Iv ab,Iv u]) l) (qY l b λad ae af ag ah ai aj ak al=>zJ uJ #[Pv c,.agg #[Iv ad,Iv ae,Iv af,Iv ag,Iv ah,Iv ai,Iv aj,.bool ak,.bool al]] l λam m=>qg (λr=>qL m b 2 λan=>cond (an==2) (Dr (λi=>NN c λa63=>qP i (a63.add 4) λv x y=>qL i b 3 λz=>NN c λC=>qZ i C 0 λao=>qJ q7 #[Pv ao,Iv a] i λap n=>zH n b 3 (Iv z) λaG=>qP n (a63.add 4) λaq ar au=>((.agg #[Pv aq,Pv ar,Pv au]):bE)=(.agg #[Pv v,Pv x,Pv y])/\qE ra #[.agg #[Pv v,Pv x,Pv y],Iv z,Sv ap] n λH=>r H) m) (r m)) λG=>Dr (λj=>NN c λs=>qZ j s 9 λA=>NN c λt=>qM j t 11 λo=>∃p:Int,gp P 81 (.map o) (Iv id) false j (.int .u64 p)/\qQ Bj #[Pv c,Iv a] j λav k=>∃B:Int,gp P 81 (.map o) (Iv id) false k (.int .u64 B)/\((.int .u64 B):bE)=(.int .u64 p)/\zS k t 11 (.map o) λaH=>qG k s 9 (Pv A) λaI=>qF Jl #[Pv A,.int .u64 p,Iv a,Iv av] k λaw I=>qE Cz #[Pv c,Iv id,Iv aa,Iv a,.string am,.bool (!aw)] I λJ=>K (.tuple #[Iv (-1),Iv 0]) J) G)
def Lx(s:ch)(e f:Int):=
 Al (.cells #[Iv e,Iv f] 54) (λd w2=>zZ w2 d λo p=>qF xO #[Pv s,.agg #[Iv o,Iv p]] w2 λq h=>dN q (K (.tuple #[.string (ByteArray.mk #[]),Iv 2]) h) (Dr (λa=>NN s λa9=>qM a a9 1 λi=>zZ a d λj k=>∃b:ByteArray,∃c:Bool,gp P 137 (.map i) (.agg #[Iv j,Iv k]) true a (.tuple #[.string b,.bool c])/\cond c (K (.tuple #[.string b,Iv 0]) a) (zZ a d λl m=>zJ CA #[.agg #[Iv l,Iv m]] a λn g=>K (.tuple #[.string n,Iv 0]) g)) h)) w
def Ly(t:ch)(b c:Int):=
 Al (.cells #[Iv b,Iv c] 54) (λf w2=>Dr (λa=>NN t λa4=>qM a a4 1 λg=>zZ a f λh i=>∃d:Int,∃e:Bool,gp P 119 (.map g) (.agg #[Iv h,Iv i]) true a (.tuple #[Iv d,.bool e])/\cond e (K (Iv d) a) (K (Iv (-1)) a)) w2) w
def Lz(t:ch)(g h owner:Int):=
 Al (.cells #[Iv g,Iv h] 54) (λa w2=>NN t λa3=>qL w2 a3 3 λb=>qL w2 a 0 λL=>eg L 0 (qU [Iv (-1),Iv b] a w2 λx=>NN t λJ=>qL x J 3 λM=>NN t λa9=>St (a9.add 3) (Iv (i64.wrap (M+1))) (λu=>Dr (λc=>NN t λi=>qM c i 0 λo=>zZ c a λy z=>Al (.cells #[Iv y,Iv z,Iv 0,Iv 0,Iv owner,Iv 0,Iv 0,.bool false,.bool false] 57) (λr j=>zS j i 0 (.map o) λN=>∃k:bI,Sem.run P (Instr.mapUpdate 117 (.map o) (Iv b) (Pv (some r))) j=.ok () k/\K (.tuple #[Iv b,Iv 0]) k) c) u) x) (zZ w2 a λA B=>qQ Ch #[Pv t,.agg #[Iv A,Iv B]] w2 λC l=>cond (decide (C≥0)) (K (.tuple #[Iv (-1),Iv 4]) l) (Dr (λd=>NN t λa26=>qM d a26 1 λD=>zZ d a λE F=>∃e:bI,Sem.run P (Instr.mapUpdate 119 (.map D) (.agg #[Iv E,Iv F]) (Iv b)) d=.ok () e/\NN t λq=>qL e q 3 λG=>NN t λa33=>St (a33.add 3) (Iv (i64.wrap (G+1))) (λv=>Dr (λf=>NN t λa36=>qM f a36 0 λp=>zZ f a λH I=>Al (.cells #[Iv H,Iv I,Iv 0,Iv 0,Iv owner,Iv 0,Iv 0,.bool false,.bool false] 57) (λs m=>zS m a36 0 (.map p) λO=>∃n:bI,Sem.run P (Instr.mapUpdate 117 (.map p) (Iv b) (Pv (some s))) m=.ok () n/\K (.tuple #[Iv b,Iv 0]) n) f) v) e) l))) w
def LA(s:ch)(i:Int):=
 eg i 0 (K (Pv none) w) (NN s λa=>qK w a 0 λb=>cond (decide (i≥((b.n:Nat):Int))) (K (Pv none) w) (NN s λa3=>qK w a3 0 λc=>qW c i 16 λa5=>K (Pv (some a5)) w))
def LB(c:ch)(g:Int)(text:ByteArray):=
 zX Cy #[Pv c,Iv g] w λi j e b=>cond (e !=0) (K (.tuple #[Iv (-1),Iv j,Iv e]) b) (NN c λf=>qZ b f 10 λk=>qj Ci #[Pv k,.agg #[Iv (-1),Iv 0],Iv g] b λa l h=>qE Cz #[Pv c,Iv a,Iv i,Iv g,.string text,.bool false] h λd=>K (.tuple #[Iv a,Iv (-1),Iv 0]) d)
def LC(c:ch)(h i j k l m n:Int)(o p:Bool):=
 Al (.cells #[Iv h,Iv i,Iv j,Iv k,Iv l,Iv m,Iv n,.bool o,.bool p] 57) (λd w2=>qL w2 d 2 λB=>cond (B==1) (Dr (λe=>NN c λa5=>qZ e (a5.add 1) 1 λD=>qL e d 3 λE=>zQ CB #[Pv D,Iv E] e λs F C=>K (.string s) C) w2) (cond (B==2) (Dr (λa=>NN c λf=>qZ a (f.add 4) 1 λt=>qL a d 3 λu=>zQ CB #[Pv t,Iv u] a λv G q=>K (.string v) q) w2) (Dr (λb=>NN c λg=>qZ b g 7 λx=>zZ b (d.add 0) λy z=>zQ xL #[Pv x,.agg #[Iv y,Iv z]] b λA H r=>K (.string A) r) w2))) w
def LD(p:ch)(a:Addr):=
 qm w a λd=>NN p λb=>St (b.add 8) (.bool d) (λc=>K aN4 c) w
def LF(s:ch)(f g:Int)(text:ByteArray):=
 Al (.cells #[Iv f,Iv g] 54) (λh w2=>zZ w2 h λn o=>qF xO #[Pv s,.agg #[Iv n,Iv o]] w2 λp b=>dN p (K (Iv 2) b) (cond (((text.size:Nat):Int) !=16) (K (Iv 1) b) (Dr (λc=>NN s λa9=>qM c a9 1 λj=>zZ c h λk l=>∃a:bI,Sem.run P (Instr.mapUpdate 137 (.map j) (.agg #[Iv k,Iv l]) (.string text)) c=.ok () a/\NN s λd=>qL a d 2 λm=>NN s λe=>St (e.add 2) (Iv (i64.wrap (m+1))) (λi=>K (Iv 0) i) a) b))) w
def LG(s:ch)(i:Int):=
 qR ss #[Pv s,Iv i] w λb a=>cond b.isNone (K (Iv 1) a) (NN b λa4=>tS 16 .u8 (.agg #[.int .u8 0,.int .u8 0,.int .u8 0,.int .u8 0,.int .u8 0,.int .u8 0,.int .u8 0,.int .u8 0,.int .u8 0,.int .u8 0,.int .u8 0,.int .u8 0,.int .u8 0,.int .u8 0,.int .u8 0,.int .u8 0]) a4 a (λc=>K (Iv 0) c))
def LH(p:ch)(i:Int):=
 qh (λb=>eg i 0 (b true w) (NN p λa5=>qZ w a5 0 λh=>qQ H9 #[Pv h] w λj f=>b (decide (i≥j)) f)) λg w2=>cond g (K (Iv 1) w2) (NN p λc=>qZ w2 c 0 λd=>qF CC #[Pv d,Iv i,.bool false] w2 λe a=>dN e (K (Iv 2) a) (K (Iv 0) a))
variable{K w}
def Wz(a x)(h:Lb K w a x):=bM (z8 [20,24,25,26,30,32,39,40,45,46,47] [] [(6,[(1,.int .u64),(8,.slice),(31,jZ)])] [(4,[])]) #[Sv a,.int .u64 x] K w func166 h
def sy:dQ:={quiet:=λd=>[11].contains d}
def CZ:Nat->Bool:=λd=>[].contains d
def WA(t:ch)(g:Int)(K:bf9)(w:bI):m3 P fG gM cx sy CZ f169 #[(.pointer t),(.int .i64 g)] K w=CW K w t g:=by kernel_rfl
def WB:m4 P sy f169 2=true:=by kernel_rfl
def WC(t:ch)(g:Int){K:bf9}{w:bI}(h:CW K w t g):Calls P BZ #[(Pv t),(Iv g)] w (cz K):=n0 mixed func169 WB (by rw[WA];exact h)
def LI(c:Addr)(b:Nat)(w:bI)(R:Ending->bf8):Prop:=
 lk b (λa=>qD a c λe=>St c (Iv (i64.wrap (e+1))) (λd=>e3 b none R d) a) w
def WD(t:ch)(g:Int)(b:Addr)(d:bE)(c:Int)(a:Nat)(w:bI)(R:Ending->bf8):mo P fG gM cx sy CZ 13 a (j9 f169.body) (ka f169.body) (ln [(9,.int .i64 c)] ((((((ji [(.pointer t),(.int .i64 g)] 0 .nil).put (some 4) (.int .i64 0)).put (some 5) (.pointer (some b))).put (some 6) (.pointer t)).put (some 7) (.int .i64 g)).put (some 8) d)) w R=LI b a w R:=by kernel_rfl
def WE:gL P 13 sy (j9 f169.body)=true/\gL P 13 sy (ka f169.body)=true:=⟨by kernel_rfl,by kernel_rfl⟩
def WG(t g)(h:Lc K w t g):=bM {} #[Pv t,Iv g] K w func170 h
def WH(s del)(h:Ld K w s del):=bM {(z8 [12,15,18,19,21,35] [] [(5,[(5,jZ),(6,jZ)])]:dQ)with dyn:=λd=>[28].contains d} #[Sv s,del] K w func171 h
def WI(id b a)(h:Le K w id b a):=bM {(z8 [15]:dQ)with head:=λr=>(bif r==1 then 12 else 0)} #[Iv id,Pv (some b),Pv (some a)] K w func172 h
def LJ(t id jo)(h:CX K w t id jo):=bM {(z8 [15]:dQ)with dyn:=λd=>[18].contains d} #[Pv t,Iv id,jo] K w func173 h
def WJ(p a)(h:Lf K w p a):=bM {} #[Pv p,Pv (some a)] K w func174 h
def WK(l group change)(h:Lg K w l group change):=bM {(z8 [27,31,40] [(7,[jQ 7],[6])] [(3,[(7,jZ)])] [(7,[(32,.bool)])]:dQ)with dyn:=λd=>[23].contains d,Ap:=λd=>(bif d==18 then[.one (.int .i64),.agg [.int .i64,.int .i64]]else[.one .raw,.one .raw])} #[Pv l,Iv group,change] K w func175 h
def WL(b c a)(h:Lh K w b c a):=bM {} #[.agg #[Iv b,Iv c],Pv (some a)] K w func176 h
def WM(chain n)(h:Li K w chain n):=bM (z8 [9,11,24] [] [(3,[(10,jZ)])]) #[Sv chain,Iv n] K w func177 h
def WN(c chain is)(h:Lj K w c chain is):=bM {(z8 [10,12,24] [] [(2,[(11,jZ)])]:dQ)with dyn:=λd=>[22].contains d} #[Pv c,Sv chain,is] K w func178 h
def WO(b c d e a)(h:Lk K w b c d e a):=bM (z8 [7]) #[.agg #[Iv b,Iv c,Iv d,Iv e],Pv (some a)] K w func179 h
def WQ(n)(h:Ll K w n):=bM (z8 [4,7]) #[Iv n] K w func180 h
def WR(t is)(h:Lm K w t is):=bM {(z8 [11,13,32] [] [(3,[(5,.slice),(12,jZ)])] [(6,[(27,.bool)])]:dQ)with dyn:=λd=>[26].contains d} #[Pv t,is] K w func181 h
def WS(x b a)(h:Ln K w x b a):=bM (z8 [] [(1,[[0,1,3,2,4,5]],[2,4])]) #[Iv x,Pv (some b),Pv (some a)] K w func182 h
def C0(s v)(h:xZ K w s v):=bM (z8 [8]) #[Sv s,Iv v] K w func183 h
def WT(a b)(h:Lo K w a b):=bM (z8 [7,8]) #[.agg #[Iv a,Iv b]] K w func184 h
def WU(l target)(h:Lp K w l target):=bM (z8 [17,22,23,26,30,32,42,44,46,49,51,57,78,86,102] [(7,[jQ 10],[6,9]),(17,[jQ 15],[12,14])] [(5,[(31,jZ)]),(11,[(50,jZ)])] [(3,[]),(14,[]),(17,[(87,.bool)])]) #[Sv l,Iv target] K w func185 h
def sA:dQ:={quiet:=λd=>[17,22,23,46].contains d,head:=λr=>(bif r==5 then 10 else 0)}
def C2:Nat->Bool:=λd=>[].contains d
def WV(l dU:Sl)(target g:Int)(K:bf9)(w:bI):m3 P fG gM cx sA C2 f186 #[(.slice l.p l.n l.c),(.slice dU.p dU.n dU.c),(.int .i64 target),(.int .i64 g)] K w=CY K w l dU target g:=by kernel_rfl
def WW:m4 P sA f186 4=true:=by kernel_rfl
def WX(l dU:Sl)(target g:Int){K:bf9}{w:bI}(h:CY K w l dU target g):Calls P B9 #[(Sv l),(Sv dU),(Iv target),(Iv g)] w (cz K):=n0 mixed func186 WW (by rw[WV];exact h)
def LL(k l m:Addr)(b:Int)(c:Nat)(w:bI)(R:Ending->bf8):Prop:=
 lk c (λe=>Dr (λa=>qc a k λg=>qW g b 3 λd=>qL a d 1 λh=>qc a l λi=>qW i b 1 λa41=>qD a a41 λj=>cond (decide (h<=j)) (St m (.bool true) (λf=>e3 c (some .ret) R f) a) (e3 c none R a)) e) w
def WY(l dU:Sl)(target g:Int)(k m n:Addr)(h i:Sl)(b:Bool)(a c:Sl)(d:Bool)(e:Sl)(o:bE)(f:Int)(j:Nat)(w:bI)(R:Ending->bf8):mo P fG gM cx sA C2 47 j (j9 f186.body) (ka f186.body) (ln [(36,.int .i64 f)] (((((((((((((((((((((((((((((((((ji [(.slice l.p l.n l.c),(.slice dU.p dU.n dU.c),(.int .i64 target),(.int .i64 g)] 0 .nil).put (some 4) (.pointer (some k))).put (some 5) (.pointer (some m))).put (some 8) (.pointer (some n))).put (some 10) (.slice h.p h.n h.c)).put (some 11) (.slice i.p i.n i.c)).put (some 12) (.int .i64 target)).put (some 13) (.bool b)).put (some 14) (.bool (!b))).put (some 15) (.bool (!b))).put (some 15) (.bool false)).put (some 16) (.int .i64 g)).put (some 17) (.bool (decide (g<0)))).put (some 18) (.bool (decide (g<0)))).put (some 19) (.bool (decide (g<0)))).put (some 19) (.bool false)).put (some 20) (.int .i64 g)).put (some 21) (.slice a.p a.n a.c)).put (some 22) (.int .i64 ((a.n:Nat):Int))).put (some 23) (.bool (decide (g≥((a.n:Nat):Int))))).put (some 24) (.bool (decide (g≥((a.n:Nat):Int))))).put (some 25) (.bool (decide (g≥((a.n:Nat):Int))))).put (some 25) (.bool false)).put (some 26) (.slice c.p c.n c.c)).put (some 27) (.int .i64 g)).put (some 28) (.int .i64 target)).put (some 29) (.bool d)).put (some 30) (.bool (!d))).put (some 31) (.bool (!d))).put (some 32) (.slice e.p e.n e.c)).put (some 33) (.int .i64 g)).put (some 34) (.int .i64 target)).put (some 35) o)) w R=LL k m n f j w R:=by kernel_rfl
def WZ:gL P 47 sA (j9 f186.body)=true/\gL P 47 sA (ka f186.body)=true:=⟨by kernel_rfl,by kernel_rfl⟩
def W0(n weights)(h:Lq K w n weights):=bM (z8 [7,10,14,15]) #[Iv n,Sv weights] K w func187 h
def W1(l)(h:Lr K w l):=bM (z8 [7,9,14,15] [] [(3,[(3,jZ),(8,jZ)])]) #[Sv l] K w func189 h
def W2(n weights)(h:Ls K w n weights):=bM (z8 [22,27,31,33,39,41,49,56,63,70,76,78,86,88] [] [(10,[(7,.slice),(8,jZ),(32,jZ)]),(20,[(77,jZ)])]) #[Iv n,Sv weights] K w func190 h
def W3(l a)(h:Lt K w l a):=bM {} #[Pv l,Sv a] K w func191 h
def W4(held b a)(h:aig K w held b a):=bM {(z8 [10,12,34] [] [(2,[(11,jZ)])]:dQ)with dyn:=λd=>[27].contains d} #[held,Pv (some b),Pv (some a)] K w func192 h
def W5(c id)(h:Lu K w c id):=bM (z8 [27] [(2,[jQ 8],[6]),(8,[jQ 8],[7]),(10,[jQ 13],[11,12])] [] [(8,[])]) #[Pv c,Iv id] K w func193 h
def W6(g b a)(h:Wx K w g b a):=bM {} #[Iv g,Pv (some b),Pv (some a)] K w func194 h
def W7(g a)(h:Wy K w g a):=bM {} #[Iv g,Pv (some a)] K w func195 h
def W8(s f)(h:Lv K w s f):=bM {(z8 [7,9,18] [] [(2,[(8,jZ)])]:dQ)with dyn:=λd=>[16].contains d} #[Sv s,f] K w func198 h
def W9(c id g)(h:Lw K w c id g):=bM (z8 [28,41,46,52,62,72,80] [(15,[jQ 13],[11,12]),(16,[jQ 16],[13,14])] [] [(4,[(26,.bool)]),(10,[(10,jZ)]),(16,[])]) #[Pv c,Iv id,Iv g] K w func205 h
def Xa(s a b)(h:Lx K w s a b):=bM {(z8:dQ)with head:=λr=>(bif r==3 then 11 else 0)} #[Pv s,.agg #[Iv a,Iv b]] K w func207 h
def Xb(t a b)(h:Ly K w t a b):=bM {(z8:dQ)with head:=λr=>(bif r==1 then 11 else 0)} #[Pv t,.agg #[Iv a,Iv b]] K w func208 h
def Xc(t a b owner)(h:Lz K w t a b owner):=bM (z8 [22,29,34] [(2,[jQ 7],[6]),(8,[jQ 10],[8,9])]) #[Pv t,.agg #[Iv a,Iv b],Iv owner] K w func209 h
def Xd(s i)(h:LA K w s i):=bM (z8 [6,13,14]) #[Pv s,Iv i] K w func211 h
def Xe(c g text)(h:LB K w c g text):=bM (z8 [22]) #[Pv c,Iv g,.string text] K w func213 h
def Xf(c a b d e f g i j k)(h:LC K w c a b d e f g i j k):=bM (z8 [19,32] [(3,[jQ 11],[6]),(5,[jQ 12],[7]),(7,[jQ 12],[7])]) #[Pv c,.agg #[Iv a,Iv b,Iv d,Iv e,Iv f,Iv g,Iv i,.bool j,.bool k]] K w func214 h
def Xg(p a)(h:LD K w p a):=bM {} #[Pv p,Pv (some a)] K w func215 h
def Xh(s a b text)(h:LF K w s a b text):=bM (z8 [14,15,26] [(5,[jQ 7],[6])]) #[Pv s,.agg #[Iv a,Iv b],.string text] K w func216 h
def Xi(s i)(h:LG K w s i):=bM (z8 [10]) #[Pv s,Iv i] K w func217 h
def Xj(p i)(h:LH K w p i):=bM (z8 [7,15] [] [] [(2,[(5,.bool)])]) #[Pv p,Iv i] K w func218 h
end Go.Mp
namespace Go.Mp
open Go Go.Vc Go.Proofs
variable{K:bf9}{w:bI}
variable(K w)
def LM(t:ch)(place a:Int):=
 NN t λd=>qM w d 2 λe=>∃b:Int,∃c:Bool,gp P 120 (.map e) (.agg #[Iv place,Iv a]) true w (.tuple #[Iv b,.bool c])/\cond c (K (Iv b) w) (K (Iv (-1)) w)
def LN(a:Sl):=
 qI 0 0 w λe n5 d b=>fD d a.n (qW a d 1 λf=>qD b f λc=>eg c 0 (K (.tuple #[Iv 0,.bool false]) b) (cond (decide (c>62)) (K (.tuple #[Iv 0,.bool false]) b) (cond (decide ((i64.wrap (n5+c))>64)) (K (.tuple #[Iv 0,.bool false]) b) ((e (i64.wrap (n5+c)) (i64.wrap (d+1)) b))))) (K (.tuple #[Iv n5,.bool true]) b)
def LO(n:Int):=
 0<=(u64.wrap n)/\K (.int .u64 (u64.wrap ((u64.wrap (1*2^(min (u64.wrap n).toNat 64)))-1))) w
def LP(x:Int)(c b:Addr):=
 Dr (λa=>qb a c λd=>NN d λa3=>qK a a3 0 λe=>qW e x 2 λa5=>qL a a5 0 λf=>qD a b λg=>K (.bool (f==g)) a) w
def LQ(s:Sl)(f:bE):=
 qO 0 w λe a c=>fD a s.n (qW s a 1 λg=>qD c g λi=>e1 P f #[Iv i] c λh d=>∃b,h=.returned (.bool b)/\cond b (K (Iv a) d) ((e (i64.wrap (a+1)) d))) (K (Iv (-1)) c)
def x0(s:Sl)(v:Int):=
 qO 0 w λc b a=>fD b s.n (qW s b 1 λd=>qD a d λe=>cond (v==e) (K (Iv b) a) ((c (i64.wrap (b+1)) a))) (K (Iv (-1)) a)
def LR(l:Sl):=
 qO 0 w λm c k=>fD c l.n (qW l c 3 λA=>ql k A λB C D=>qi k λa n=>qU [Iv B,Iv C,Iv D] a n λe=>qh (λh=>cond (c==0) (qL e a 0 λo=>h (o==(-1)) e) (h false e)) λd b=>dN d (qL b a 0 λp=>eg p 0 (K aN2 b) (qL b a 0 λq=>cond (decide (q≥c)) (K aN2 b) (qL b a 1 λr=>qF uM #[Iv r] b λs f=>dN s (K aN2 f) (qL f a 2 λt=>qF uM #[Iv t] f λu i=>dN u (K aN2 i) ((m (i64.wrap (c+1)) i)))))) (qL b a 1 λv=>qF uM #[Iv v] b λx g=>dN x (K aN2 g) (qL g a 2 λy=>qF uM #[Iv y] g λz j=>dN z (K aN2 j) ((m (i64.wrap (c+1)) j))))) (K (.bool (decide (((l.n:Nat):Int)<=64))) k)
def LS(b c d:Int):=
 Al (.cells #[Iv b,Iv c,Iv d] 247) (λa w2=>qL w2 a 2 λe=>qL w2 a 1 λf=>K (Iv (min1 e f)) w2) w
def C3(l:Sl)(g target:Int):=
 Al (.cells #[.bool false] 4) (λa w2=>qN Cu #[Sv l,Iv g,Iv target] w2 λf h=>iB P 15 f #[12] (j9 f238.body) (ka f238.body) .ret (((((((ji [Sv l,Iv g,Iv target] 0 .nil).put (some 6) (Pv (some a))).put (some 8) (Sv l)).put (some 9) (Iv g)).put (some 10) (Iv target)).put (some 11) f)) h (λb6 i=>St a (.bool true) (λd=>d.heap[b6]?=some (.deferred (some []))/\∃e:Bool,(d.putObj b6 (.deferred none)).cell? a=some (.bool e)/\K (.bool e) (d.putObj b6 (.deferred none))) i) (λb7 c=>c.heap[b7]?=some (.deferred (some []))/\∃b:Bool,(c.putObj b7 (.deferred none)).cell? a=some (.bool b)/\K (.bool b) (c.putObj b7 (.deferred none)))) w
def LU(a p s:Int):=
 zN xN #[.int .u64 (u64.wrap a),.int .u64 (u64.wrap p)] w λd e b=>zN uL #[.int .u64 d,.int .u64 e,.int .u64 (u64.wrap s)] b λf g c=>K (Iv (i64.wrap f)) c
def LV(l dU:Sl)(target:Int):=
 qF Cr #[Sv l] w λb a=>cond b (cond (((dU.n:Nat):Int)==((l.n:Nat):Int)) (cond (decide ((0:Int)<=target)) (K (.bool (decide (target<((l.n:Nat):Int)))) a) (K aN2 a)) (K aN2 a)) (K aN2 a)
def LW(l:Sl)(g target:Int):=
 Al (.cells #[Sv l] 245) (λa w2=>qC #[Iv g] w2 λb d=>qC #[Iv target] d λc e=>K (.func (.func sv) #[] #[Pv (some b),Pv (some c),Pv (some a)]) e) w
def LX(a:Int):=
 eg a 0 (K aN3 w) (K (.bool (decide (a>1099511627776))) w)
def LY(s:Sl)(f:bE):=
 qQ Cq #[Sv s,f] w λb a=>K (.bool (decide (b≥0))) a
def C4(x y:Int):=
 0<=(32:Int)/\0<=(32:Int)/\0<=(32:Int)/\0<=(32:Int)/\0<=(32:Int)/\K (.tuple #[.int .u64 (u64.wrap ((u64.wrap ((u64.wrap ((x.fdiv (2^(min (32:Int).toNat 64)))*(y.fdiv (2^(min (32:Int).toNat 64)))))+((u64.wrap ((u64.wrap ((x.fdiv (2^(min (32:Int).toNat 64)))*(dm .u64 y 4294967295)))+((u64.wrap ((dm .u64 x 4294967295)*(dm .u64 y 4294967295))).fdiv (2^(min (32:Int).toNat 64))))).fdiv (2^(min (32:Int).toNat 64)))))+((u64.wrap ((dm .u64 (u64.wrap ((u64.wrap ((x.fdiv (2^(min (32:Int).toNat 64)))*(dm .u64 y 4294967295)))+((u64.wrap ((dm .u64 x 4294967295)*(dm .u64 y 4294967295))).fdiv (2^(min (32:Int).toNat 64))))) 4294967295)+(u64.wrap ((dm .u64 x 4294967295)*(y.fdiv (2^(min (32:Int).toNat 64))))))).fdiv (2^(min (32:Int).toNat 64))))),.int .u64 (u64.wrap (x*y))]) w
def LZ(x:Sl)(cmp:bE):=
 qE Jp #[Sv x,Iv ((x.n:Nat):Int),cmp] w λa=>K aN4 a
def L1(b c d e:Int):=
 Al (.cells #[Iv b,.int .u64 c] 302) (λh w2=>Al (.cells #[Iv d,.int .u64 e] 302) (λi a=>∃f:Int,a.cell? (i.add 1)=some (.int .u64 f)/\∃g:Int,a.cell? (h.add 1)=some (.int .u64 g)/\qQ Jd #[.int .u64 f,.int .u64 g] a λk j=>K (Iv k) j) w2) w
def L2(x y:Int):=
 qF CE #[.int .u64 x] w λd c=>qF CE #[.int .u64 y] c λb a=>cond d (cond b (K (Iv 0) a) (K (Iv (-1)) a)) (cond b (K (Iv 1) a) (eg x y (K (Iv (-1)) a) (cond (decide (x>y)) (K (Iv 1) a) (K (Iv 0) a))))
def L3(id:Int)(c b:Addr):=
 Dr (λa=>qc a c λg=>qb a b λh=>NN h λa4=>qM a a4 0 λi=>∃e:Int,∃j:Int,gp P 140 (.map i) (Iv id) false a (.agg #[Iv e,Iv j])/\qF py #[Sv g,Iv e] a λd f=>K (.bool (!d)) f) w
def L4(x:Sl)(cmp:bE):=
 qE Jq #[Sv x,Iv ((x.n:Nat):Int),cmp] w λa=>K aN4 a
def L5(a b:Int)(d:Addr):=
 Dr (λc=>qb c d λk=>NN k λa3=>qM c a3 0 λl=>∃m:Int,∃i:Int,gp P 140 (.map l) (Iv b) false c (.agg #[Iv m,Iv i])/\qb c d λn=>NN n λj=>qM c j 0 λo=>∃g:Int,∃e:Int,gp P 140 (.map o) (Iv a) false c (.agg #[Iv g,Iv e])/\qQ Jh #[Iv i,Iv e] c λh f=>K (Iv h) f) w
def L6(x y:Int):=
 qF CD #[Iv x] w λd c=>qF CD #[Iv y] c λb a=>cond d (cond b (K (Iv 0) a) (K (Iv (-1)) a)) (cond b (K (Iv 1) a) (eg x y (K (Iv (-1)) a) (cond (decide (x>y)) (K (Iv 1) a) (K (Iv 0) a))))
def L7(c:ch)(id p q r s t u v:Int)(x y:Bool)(chain:Sl):=
 Al (.cells #[Iv p,Iv q,Iv r,Iv s,Iv t,Iv u,Iv v,.bool x,.bool y] 57) (λV w2=>qO 0 w2 λT n d=>fD n chain.n (qW chain n 1 λU=>qD d U λS=>Dr (λf=>NN c λe=>qZ f (e.add 4) 2 λk=>qQ H0 #[Pv c,Iv S] f λB g=>qG g (e.add 4) 2 (Pv k) λW=>qQ Jr #[Pv k,Iv S] g λC h=>cond (decide (B≥C)) (K aN2 h) ((T (i64.wrap (n+1)) h))) d) (NN c λa20=>qZ d (a20.add 4) 0 λD=>qj sw #[Pv D] d λl E a=>cond (E !=0) (K aN2 a) (NN c λa26=>qZ a (a26.add 4) 2 λF=>qj uN #[Pv F,Sv chain,Iv 1] a λX Y z=>Dr (λb=>NN c λa33=>qZ b (a33.add 4) 1 λm=>qY b V λG H I J L M N O P=>zJ uJ #[Pv c,.agg #[Iv G,Iv H,Iv I,Iv J,Iv L,Iv M,Iv N,.bool O,.bool P]] b λQ i=>qG i (a33.add 4) 1 (Pv m) λZ=>qQ CF #[Pv m,Iv l,.string Q] i λaa j=>NN c λo=>qZ j o 10 λR=>qQ uG #[Pv R,Iv id,Iv 2,Iv l] j λab A=>K aN3 A) z))) w
def L8(l:ch)(g:Int):=
 qF xQ #[Iv g] w λk b=>dN k (K (.int .u64 0) b) (NN l λa4=>cK (some (a4.add 0)) 64 g 2 λa5=>qL b a5 0 λm=>zU Js #[Iv g,Iv m] b λn j=>Dr (λa=>NN l λc=>cK (some (c.add 0)) 64 g 2 λd=>qL a d 0 λi=>NN l λe=>cK (some (e.add 0)) 64 g 2 λf=>St (f.add 0) (Iv (i64.wrap (i+1))) (λh=>K (.int .u64 n) h) a) j)
def L9(c:ch)(g:Int):=
 ∃(p:Sl->bf8) (M2:Sl->bI->Nat),(NN c λR=>qZ w R 0 λS=>qJ q7 #[Pv S,Iv g] w λk z=>NN c λq=>qZ z (q.add 1) 2 λA=>qj uN #[Pv A,Sv k,Iv 1] z λB C e=>q9 (λm=>cond (C==0) (NN c λr=>qZ e (r.add 1) 0 λD=>qj sw #[Pv D] e λE F f=>cond (F==0) (K (.tuple #[Iv E,Iv (-1),Iv 0]) f) (NN c λa27=>qZ f (a27.add 1) 2 λG=>qQ sn #[Pv G,Sv k,Iv 1] f λU v=>m 0 v)) (m B e)) λb u=>qF sq #[Pv c,Iv b] u λH o=>cond H (p k o) (K (.tuple #[Iv (-1),Iv b,Iv 12]) o))/\∀T:Nat->bE,∀a:Sl,∀l:bI,p a l->NN c λa35=>qZ l (a35.add 1) 2 λI=>qj uN #[Pv I,Sv a,Iv 1] l λJ L h=>q9 (λn=>cond (L==0) (NN c λs=>qZ h (s.add 1) 0 λM=>qj sw #[Pv M] h λN O i=>cond (O==0) (K (.tuple #[Iv N,Iv (-1),Iv 0]) i) (NN c λt=>qZ i (t.add 1) 2 λP=>qQ sn #[Pv P,Sv a,Iv 1] i λV y=>n 0 y)) (n J h)) λd x=>qF sq #[Pv c,Iv d] x λQ j=>cond Q ((p a j/\M2 a j<M2 a l)) (K (.tuple #[Iv (-1),Iv d,Iv 12]) j)
def Ma(l:ch)(x b a:Int):=
 zO CG #[.int .u64 x] w λq u t i=>qg (λr=>dN t (K aN2 i) (qF xQ #[Iv q] i λk f=>dN k (K aN2 f) (NN l λg=>cK (some (g.add 0)) 64 q 2 λh=>qL f h 0 λm=>qF Jt #[.int .u64 x,Iv m,Iv a] f λn c=>dN n (K aN2 c) (r c)))) λs=>qF xQ #[Iv b] s λo d=>cond o (Dr (λe=>NN l λa22=>cK (some (a22.add 0)) 64 b 2 λa23=>qL e a23 1 λp=>NN l λa25=>cK (some (a25.add 0)) 64 b 2 λa26=>St (a26.add 1) (Iv (i64.wrap (p+1))) (λj=>K aN3 j) e) d) (K aN3 d)
def Mb(c:ch)(id a g:Int)(text:ByteArray)(dZ:Bool):=
 NN c λl=>qZ w (l.add 1) 1 λn=>qQ CF #[Pv n,Iv a,.string text] w λs h=>NN c λm=>qZ h m 10 λo=>qQ BF #[Pv o,Iv id,Iv g] h λp i=>NN c λd=>qZ i d 10 λj=>qQ uG #[Pv j,Iv id,Iv 1,Iv a] i λq b=>NN c λe=>qZ b e 8 λk=>qQ Ju #[Pv k,Iv id,Iv g,.bool dZ] b λr f=>K aN4 f
def Mc(c:ch):=
 NN c λr=>qK w r 12 λp=>qf ⟨none,0,0⟩ 0 w λq h g f=>fD g p.n (qW p g 3 λa9=>qa f a9 λl m n=>qx f λa j=>qU [Iv l,Iv m,.bool n] a j λb=>qy b a 2 λo=>Al (.cells #[.bool o] 4) (λi k=>∃e:Sl,∃d:bI,Sem.run P (Builtin.append_ #[194,194] 194 #[Sv h,.slice (some i) 1 1]) k=.ok (Sv e) d/\(q e (i64.wrap (g+1)) d)) b) (K (Sv h) f)
def Md(s:ch)(c d:Int):=
 Al (.cells #[Iv c,Iv d] 54) (λb w2=>Dr (λa=>qL a b 1 λg=>cond (decide ((0:Int)<=g)) (qL a b 1 λf=>qL a b 0 λh=>qQ BI #[Pv s,Iv h] a λi e=>zH e b 1 (Iv f) λj=>K (.bool (decide (f<i))) e) (K aN2 a)) w2) w
def Me(e f:Int):=
 Al (.cells #[Iv e,Iv f] 54) (λk w2=>zD w2 λg i=>zZ i k λl m=>qO 0 i λj a c=>eg a 16 (cK (some g) 16 a 1 λd=>St d (.int .u8 (IntKind.u8.wrap ((IntKind.u8.wrap ((IntKind.u8.wrap ((IntKind.u8.wrap l)*31))+(IntKind.u8.wrap ((IntKind.u8.wrap m)*7))))+(IntKind.u8.wrap a)))) (λh=>(j (i64.wrap (a+1)) h)) c) (∃b:ByteArray,tQ P 272 9 (.slice (nf g 0 16 1) (16-0) (16-0)) c (.string b)/\K (.string b) c)) w
def Mf(s:ch)(i:Int):=
 qR ss #[Pv s,Iv i] w λb a=>cond b.isNone (K (.tuple #[.string (ByteArray.mk #[]),Iv 1]) a) (NN b λa4=>∃c:ByteArray,tQ P 272 9 (.slice (nf a4 0 16 1) (16-0) (16-0)) a (.string c)/\K (.tuple #[.string c,Iv 0]) a)
def Mg(m:ch)(i:Int)(on:Bool):=
 qg (λl=>eg i 0 (K aN2 w) (NN m λa4=>qL w a4 0 λn=>cond (decide (i≥n)) (K aN2 w) (qF Jx #[Pv m,Iv i] w λo j=>cond (o==on) (K aN2 j) (l j)))) λw2=>zC CJ #[Iv i] w2 λa k d=>NN m λe=>qK d e 1 λb=>qW b a 1 λf=>∃c:Int,d.cell? f=some (.int .u64 c)/\qW b a 1 λg=>St g (.int .u64 (ov .u64 c k)) (λh=>K aN3 h) d
def Xk(x:Int):=
 K (.bool (x !=x)) w
def Mh(n:Int):=
 cond (decide ((0:Int)<=n)) (K (.bool (decide (n<=1099511627776))) w) (K aN2 w)
def C5(yield:bE)(a f d:Addr):=
 qd w λm c=>qD c a λo=>qD c f λp=>cond (o !=p) (qD c a λq=>w7 P none yield #[Iv q] c λn b=>∃e,n=.returned (.bool e)/\dN e (K aN4 b) (qD b a λi=>eg i 0 (K aN4 b) (qc b d λj=>qD b a λk=>qW j k 3 λg=>qL b g 0 λl=>St a (Iv l) (λh=>(([]:bA Nat)= []/\(m h))) b))) (K aN4 c)
variable{K w}
def Xl(t place a)(h:LM K w t place a):=bM {} #[Pv t,Iv place,Iv a] K w func219 h
def Xm(a)(h:LN K w a):=bM (z8 [8,10,14,17,22,23,27,28] [] [(3,[(4,jZ),(9,jZ)])]) #[Sv a] K w func231 h
def Xn(n)(h:LO K w n):=bM (z8 [4,5,6]) #[Iv n] K w func232 h
def Xo(x b a)(h:LP K w x b a):=bM {(z8 [14]:dQ)with head:=λr=>(bif r==1 then 11 else 0)} #[Iv x,Pv (some b),Pv (some a)] K w func233 h
def Xp(s f)(h:LQ K w s f):=bM {(z8 [7,9,18] [] [(2,[(8,jZ)])]:dQ)with dyn:=λd=>[16].contains d} #[Sv s,f] K w func234 h
def C6(s v)(h:x0 K w s v):=bM (z8 [7,9,16,18] [] [(2,[(8,jZ)])]) #[Sv s,Iv v] K w func235 h
def Xq(l)(h:LR K w l):=bM (z8 [7,9,14,18,25,30,45,47,48] [] [(2,[(8,jZ)])] [(5,[(5,.bool)])]) #[Sv l] K w func236 h
def Xr(a b c)(h:LS K w a b c):=bM (z8 [7]) #[.agg #[Iv a,Iv b,Iv c]] K w func237 h
def sB:dQ:={quiet:=λd=>[14].contains d}
def C7:Nat->Bool:=λd=>[].contains d
def Xs(l:Sl)(g target:Int)(K:bf9)(w:bI):m3 P fG gM cx sB C7 f238 #[(.slice l.p l.n l.c),(.int .i64 g),(.int .i64 target)] K w=C3 K w l g target:=by kernel_rfl
def Xt:m4 P sB f238 3=true:=by kernel_rfl
def Xu(l:Sl)(g target:Int){K:bf9}{w:bI}(h:C3 K w l g target):Calls P xM #[(Sv l),(Iv g),(Iv target)] w (cz K):=n0 mixed func238 Xt (by rw[Xs];exact h)
def Mi(e:Addr)(d:Int)(b:Nat)(w:bI)(R:Ending->bf8):Prop:=
 lk b (λa=>eg d 0 (St e (.bool false) (λc=>e3 b (some .ret) R c) a) (e3 b none R a)) w
def Xv(l:Sl)(g target:Int)(c:Addr)(d:bE)(a:Int)(b:Nat)(w:bI)(R:Ending->bf8):mo P fG gM cx sB C7 15 b (j9 f238.body) (ka f238.body) (ln [(12,.int .i64 a)] ((((((ji [(.slice l.p l.n l.c),(.int .i64 g),(.int .i64 target)] 0 .nil).put (some 6) (.pointer (some c))).put (some 8) (.slice l.p l.n l.c)).put (some 9) (.int .i64 g)).put (some 10) (.int .i64 target)).put (some 11) d)) w R=Mi c a b w R:=by kernel_rfl
def Xw:gL P 15 sB (j9 f238.body)=true/\gL P 15 sB (ka f238.body)=true:=⟨by kernel_rfl,by kernel_rfl⟩
def Xx(a p s)(h:LU K w a p s):=bM (z8 [13,15,23,28]) #[Iv a,Iv p,Iv s] K w func239 h
def Xy(l dU target)(h:LV K w l dU target):=bM (z8 [11,13,14,18,23,24]) #[Sv l,Sv dU,Iv target] K w func240 h
def Xz(l g target)(h:LW K w l g target):=bM {} #[Sv l,Iv g,Iv target] K w func241 h
def XA(a)(h:LX K w a):=bM (z8 [4,7]) #[Iv a] K w func242 h
def XB(s f)(h:LY K w s f):=bM (z8 [8]) #[Sv s,f] K w func243 h
def Mj(x y)(h:C4 K w x y):=bM (z8 [15,17,19,21,24,27,29,30,32,34,38,39,42,44,46,47,50]) #[.int .u64 x,.int .u64 y] K w func244 h
def XC(x cmp)(h:LZ K w x cmp):=bM (z8 [6]) #[Sv x,cmp] K w func246 h
def XD(a b c d)(h:L1 K w a b c d):=bM {} #[.agg #[Iv a,.int .u64 b],.agg #[Iv c,.int .u64 d]] K w func247 h
def XE(x y)(h:L2 K w x y):=bM (z8 [16,19]) #[.int .u64 x,.int .u64 y] K w func248 h
def XF(id b a)(h:L3 K w id b a):=bM (z8 [] [(1,[jQ 11],[8])]) #[Iv id,Pv (some b),Pv (some a)] K w func250 h
def XG(x cmp)(h:L4 K w x cmp):=bM (z8 [6]) #[Sv x,cmp] K w func251 h
def XH(a b c)(h:L5 K w a b c):=bM (z8 [] [(1,[jQ 16],[14])]) #[Iv a,Iv b,Pv (some c)] K w func252 h
def XI(x y)(h:L6 K w x y):=bM (z8 [16,19]) #[Iv x,Iv y] K w func253 h
def XJ(c id a b d e f g i j k chain)(h:L7 K w c id a b d e f g i j k chain):=bM (z8 [14,16,29,30,41] [(4,[[0,1,3,4,5,6,7,8,2,9,10]],[2,9]),(11,[jQ 10],[8,9])] [(2,[(15,jZ)])]) #[Pv c,Iv id,.agg #[Iv a,Iv b,Iv d,Iv e,Iv f,Iv g,Iv i,.bool j,.bool k],Sv chain] K w func254 h
def XK(l g)(h:L8 K w l g):=bM (z8 [25] [(4,[jQ 13],[12])]) #[Pv l,Iv g] K w func255 h
def XL(c g)(h:L9 K w c g):=bM {(z8 [29,40] [] [] [(9,[(8,jZ)])]:dQ)with goto:=λl=>(bif l==0 then some [(7,.slice)]else none)} #[Pv c,Iv g] K w func257 h
def XM(l x b a)(h:Ma K w l x b a):=bM (z8 [47] [(5,[jQ 13],[12])] [] [(4,[])]) #[Pv l,.int .u64 x,Iv b,Iv a] K w func258 h
def XN(c id a g text dZ)(h:Mb K w c id a g text dZ):=bM {} #[Pv c,Iv id,Iv a,Iv g,.string text,.bool dZ] K w func259 h
def XO(c)(h:Mc K w c):=bM (z8 [10,12,20] [] [(3,[(3,.slice),(11,jZ)])]) #[Pv c] K w func261 h
def XP(s a b)(h:Md K w s a b):=bM (z8 [7,15] [(1,[jQ 13],[9])]) #[Pv s,.agg #[Iv a,Iv b]] K w func262 h
def XQ(a b)(h:Me K w a b):=bM (z8 [8,9,12,13,14,16,21,22,24,26] [] [(4,[(15,jZ)])]) #[.agg #[Iv a,Iv b]] K w func263 h
def XR(s i)(h:Mf K w s i):=bM (z8 [11,15]) #[Pv s,Iv i] K w func265 h
def XS(m i on)(h:Mg K w m i on):=bM (z8 [10,17,24,39] [] [] [(3,[])]) #[Pv m,Iv i,.bool on] K w func266 h
def XT(x)(h:Xk K w x):=bM (z8 [5]) #[Iv x] K w func272 h
def XU(n)(h:Mh K w n):=bM (z8 [4,7]) #[Iv n] K w func273 h
def Mk:dQ:={quiet:=λd=>[7,19].contains d,loop:=λr=>(bif r==0 then[]else[])}
def XV:Nat->Bool:=λd=>[15].contains d
def XW(yield:bE)(c b a:Addr)(K:bf9)(w:bI):m3 P fG gM cx Mk XV f274 #[yield,(.pointer (some c)),(.pointer (some b)),(.pointer (some a))] K w=C5 K w yield c b a:=by kernel_rfl
def XX:m4 P Mk f274 4=true:=by kernel_rfl
def XY(yield:bE)(c b a:Addr){K:bf9}{w:bI}(h:C5 K w yield c b a):Calls P sv #[yield,(Pv (some c)),(Pv (some b)),(Pv (some a))] w (cz K):=n0 mixed func274 XX (by rw[XW];exact h)
end Go.Mp
namespace Go.Mp
open Go Go.Vc Go.Proofs
variable{K:bf9}{w:bI}
variable(K w)
def Ml(data:Sl)(n:Int)(cmp:bE):=
 qI 0 20 w λj a5 b6 i=>cond (decide (b6<=n)) (qE CK #[Sv data,Iv a5,Iv b6,cmp] i λk=>(j b6 (i64.wrap (b6+20)) k)) (qE CK #[Sv data,Iv a5,Iv n,cmp] i λl=>qO 20 l λd a e=>eg a n (qI 0 (i64.wrap (2*a)) e λf a20 b c=>cond (decide (b<=n)) (qE uO #[Sv data,Iv a20,Iv (i64.wrap (a20+a)),Iv b,cmp] c λg=>(f b (i64.wrap (b+(i64.wrap (2*a)))) g)) (cond (decide ((i64.wrap (a20+a))<n)) (qE uO #[Sv data,Iv a20,Iv (i64.wrap (a20+a)),Iv n,cmp] c λh=>(d (i64.wrap (a*2)) h)) ((d (i64.wrap (a*2)) c)))) (K aN4 e))
def XZ(x:Int):=
 K (.bool (x !=x)) w
def Mm(data:Sl)(n:Int)(cmp:bE):=
 qI 0 20 w λj a5 b6 i=>cond (decide (b6<=n)) (qE CL #[Sv data,Iv a5,Iv b6,cmp] i λk=>(j b6 (i64.wrap (b6+20)) k)) (qE CL #[Sv data,Iv a5,Iv n,cmp] i λl=>qO 20 l λd a e=>eg a n (qI 0 (i64.wrap (2*a)) e λf a20 b c=>cond (decide (b<=n)) (qE uP #[Sv data,Iv a20,Iv (i64.wrap (a20+a)),Iv b,cmp] c λg=>(f b (i64.wrap (b+(i64.wrap (2*a)))) g)) (cond (decide ((i64.wrap (a20+a))<n)) (qE uP #[Sv data,Iv a20,Iv (i64.wrap (a20+a)),Iv n,cmp] c λh=>(d (i64.wrap (a*2)) h)) ((d (i64.wrap (a*2)) c)))) (K aN4 e))
def Mn(c:ch)(g:Int):=
 qH Bt #[Pv c,Iv g] w λd b e f a=>K (Iv b) a
def Mo(p:ch):=
 NN p λc=>qZ w c 0 λf=>qQ Jy #[Pv f,Iv 0,.bool false] w λb a=>eg b 0 (K (.tuple #[Iv (-1),Iv 3]) a) (NN p λd=>qZ a d 0 λg=>qF CC #[Pv g,Iv b,.bool true] a λh e=>K (.tuple #[Iv b,Iv 0]) e)
def Mq(c:ch)(chain:Sl)(n:Int):=
 qC #[Iv n] w λh w2=>qD w2 h λC=>qF B3 #[Sv chain,Iv C] w2 λD t=>dN D (K (.tuple #[Iv (-1),Iv 1]) t) (qQ B4 #[Pv c,Sv chain,(.func (.func CM) #[] #[Pv (some h)])] t λf u=>cond (decide (f≥0)) (Dr (λg=>NN c λj=>cK (some (j.add 0)) 64 f 4 λk=>qL g k 2 λv=>NN c λl=>cK (some (l.add 0)) 64 f 4 λm=>St (m.add 2) (Iv (i64.wrap (v+1))) (λq=>K (.tuple #[Iv f,Iv 22]) q) g) u) (qO 0 u λi e a=>fD e chain.n (qW chain e 1 λa22=>qD a a22 λx=>NN c λa24=>cK (some (a24.add 0)) 64 x 4 λa25=>Dr (λb=>NN (some a25) λa27=>qL b a27 0 λy=>qD b h λz=>NN (some a25) λo=>St (o.add 0) (Iv (i64.wrap (y+z))) (λr=>Dr (λd=>NN (some a25) λa33=>qL d a33 3 λA=>NN (some a25) λa35=>qL d a35 0 λB=>NN (some a25) λp=>St (p.add 3) (Iv (eE A B)) (λs=>(i (i64.wrap (e+1)) s)) d) r) b) a) (K (.tuple #[Iv (-1),Iv 0]) a)))
def Mr(s:ch)(i:Int)(text:ByteArray):=
 qR ss #[Pv s,Iv i] w λc a=>cond c.isNone (K (Iv 1) a) (cond (((text.size:Nat):Int) !=16) (K (Iv 1) a) (NN c λa4=>∃d:Int,∃b:bI,Sem.run P (Builtin.copy_ #[272,9] 3 #[.slice (nf a4 0 16 1) (16-0) (16-0),.string text]) a=.ok (Iv d) b/\K (Iv 0) b))
def Ms(g:Int):=
 cond (decide ((0:Int)<=g)) (K (.bool (decide (g<64))) w) (K aN2 w)
def Mt(group clock:Int):=
 eg clock 0 (K (.int .u64 0) w) (qJ CN #[] w λe b=>qC #[Iv 1,Iv group,Iv (dm .i64 clock 1099511627775)] b λa c=>zB CH #[Sv e,.slice (some a) 3 3] c λf g d=>K (.int .u64 f) d)
def Mu(x:Int):=
 qJ CN #[] w λm k=>zF BW #[Sv m,.int .u64 x] k λc n b=>qg (λj=>cond (n !=0) (K (.tuple #[Iv 0,Iv 0,.bool false]) b) (qW c 0 1 λd=>qD b d λg=>cond (g !=1) (K (.tuple #[Iv 0,Iv 0,.bool false]) b) (j b))) λl=>Dr (λa=>qW c 1 1 λe=>qD a e λh=>qW c 2 1 λf=>qD a f λi=>K (.tuple #[Iv h,Iv i,.bool true]) a) l
def Mv(x clock a:Int):=
 qQ Jz #[.int .u64 x,Iv clock] w λc b=>cond (decide ((0:Int)<=c)) (K (.bool (decide (c<=a))) b) (K aN2 b)
def Mw(l:ch)(id group:Int)(dZ:Bool):=
 qg (λt=>eg id 0 (K (Iv 1) w) (cond (decide (id>16777216)) (K (Iv 1) w) (eg group 0 (K (Iv 1) w) (cond (decide (group>16777216)) (K (Iv 1) w) (t w))))) λw2=>NN l λa4=>qM w2 a4 0 λv=>∃q:Int,∃r:Int,∃s:Bool,gp P 140 (.map v) (Iv id) true w2 (.tuple #[.agg #[Iv q,Iv r],.bool s])/\qw w2 λu h=>qU [Iv q,Iv r] u h λe=>cond s (K (Iv 4) e) (qw e λa i=>qU [Iv group,Iv 0] a i λb=>qg (λd=>cond dZ (qL b a 1 λm=>St (a.add 1) (Iv (i64.wrap (m+1))) (λk=>d k) b) (d b)) λj=>Dr (λc=>NN l λg=>qM c g 0 λn=>zZ c a λo p=>∃f:bI,Sem.run P (Instr.mapUpdate 140 (.map n) (Iv id) (.agg #[Iv o,Iv p])) c=.ok () f/\K (Iv 0) f) j)
def Mx(a values:Sl):=
 qg (λp=>qp Cn #[Sv a] w λr q i=>dN q (K (.tuple #[.int .u64 0,Iv 1]) i) (cond (((values.n:Nat):Int) !=((a.n:Nat):Int)) (K (.tuple #[.int .u64 0,Iv 1]) i) (p i))) λw2=>zA 0 0 0 w2 λo g b d c=>fD d a.n (qW a d 1 λk=>qD c k λh=>qW values d 1 λl=>qD c l λe=>qg (λj=>eg e 0 (K (.tuple #[.int .u64 0,Iv 1]) c) (zU Co #[Iv h] c λn f=>cond (decide ((u64.wrap e)>n)) (K (.tuple #[.int .u64 0,Iv 1]) f) (j f))) λm=>0<=b/\(o (iY .u64 g (u64.wrap ((u64.wrap e)*2^(min b.toNat 64)))) (u64.wrap (b+(u64.wrap h))) (i64.wrap (d+1)) m)) (K (.tuple #[.int .u64 g,Iv 0]) c)
def My(m:ch)(i:Int):=
 qg (λf=>eg i 0 (K aN2 w) (NN m λa4=>qL w a4 0 λg=>cond (decide (i≥g)) (K aN2 w) (f w))) λw2=>zC CJ #[Iv i] w2 λh j b=>NN m λc=>qK b c 1 λe=>qW e h 1 λd=>∃a:Int,b.cell? d=some (.int .u64 a)/\K (.bool ((dm .u64 a j) !=0)) b
def Mz(i:Int):=
 0<=(6:Int)/\0<=(u64.wrap (dm .i64 i 63))/\K (.tuple #[Iv (i.fdiv (2^(min (6:Int).toNat 64))),.int .u64 (u64.wrap (1*2^(min (u64.wrap (dm .i64 i 63)).toNat 64)))]) w
def MA(data:Sl)(a b:Int)(cmp:bE):=
 qO (i64.wrap (a+1)) w λh i5 o=>eg i5 b (qO i5 o λA c B=>qg (λi=>Dr (λd=>cond (decide (c>a)) (qW data c 2 λj=>zM d j λr s=>qW data (i64.wrap (c-1)) 2 λk=>zM d k λt u=>e1 P cmp #[.agg #[Iv r,.int .u64 s],.agg #[Iv t,.int .u64 u]] d λm f=>∃g,m=.returned (Iv g)/\eg g 0 (i f) ((h (i64.wrap (i5+1)) f))) ((h (i64.wrap (i5+1)) d))) B) λn=>Dr (λe=>qW data (i64.wrap (c-1)) 2 λa25=>zM e a25 λv x=>qW data c 2 λa28=>zM e a28 λy z=>qW data c 2 λl=>qU [Iv v,.int .u64 x] l e λp=>qW data (i64.wrap (c-1)) 2 λa33=>qU [Iv y,.int .u64 z] a33 p λq=>(A (i64.wrap (c-1)) q)) n) (K aN4 o)
def MB(data:Sl)(a m b:Int)(cmp:bE):=
 cond ((i64.wrap (m-a))==1) (qI m b w λT i5 j aj=>eg i5 j (0<=(1:Int)/\Dr (λQ=>qW data (i64.wrap ((u64.wrap (i64.wrap (i5+j))).fdiv (2^(min (1:Int).toNat 64)))) 2 λaL=>zM Q aL λaM ap=>qW data a 2 λW=>zM Q W λaq ar=>e1 P cmp #[.agg #[Iv aM,.int .u64 ap],.agg #[Iv aq,.int .u64 ar]] Q λaf z=>∃J,af=.returned (Iv J)/\eg J 0 ((T (i64.wrap ((i64.wrap ((u64.wrap (i64.wrap (i5+j))).fdiv (2^(min (1:Int).toNat 64))))+1)) j z)) ((T i5 (i64.wrap ((u64.wrap (i64.wrap (i5+j))).fdiv (2^(min (1:Int).toNat 64)))) z))) aj) (qO a aj λU d A=>cond (decide (d<(i64.wrap (i5-1)))) (Dr (λl=>qW data (i64.wrap (d+1)) 2 λa23=>zM l a23 λau av=>qW data d 2 λa26=>zM l a26 λaw ax=>qW data d 2 λa29=>qU [Iv au,.int .u64 av] a29 l λak=>qW data (i64.wrap (d+1)) 2 λX=>qU [Iv aw,.int .u64 ax] X ak λal=>(U (i64.wrap (d+1)) al)) A) (K aN4 A))) (cond ((i64.wrap (b-m))==1) (qI a m w λr i37 g B=>eg i37 g (0<=(1:Int)/\Dr (λn=>qW data m 2 λa40=>zM n a40 λay az=>qW data (i64.wrap ((u64.wrap (i64.wrap (i37+g))).fdiv (2^(min (1:Int).toNat 64)))) 2 λY=>zM n Y λaA aB=>e1 P cmp #[.agg #[Iv ay,.int .u64 az],.agg #[Iv aA,.int .u64 aB]] n λag C=>∃L,ag=.returned (Iv L)/\cond (!(decide (L<0))) ((r (i64.wrap ((i64.wrap ((u64.wrap (i64.wrap (i37+g))).fdiv (2^(min (1:Int).toNat 64))))+1)) g C)) ((r i37 (i64.wrap ((u64.wrap (i64.wrap (i37+g))).fdiv (2^(min (1:Int).toNat 64)))) C))) B) (qO m B λV e D=>cond (decide (e>i37)) (Dr (λo=>qW data (i64.wrap (e-1)) 2 λZ=>zM o Z λaC aD=>qW data e 2 λaa=>zM o aa λaE aF=>qW data e 2 λab=>qU [Iv aC,.int .u64 aD] ab o λam=>qW data (i64.wrap (e-1)) 2 λa63=>qU [Iv aE,.int .u64 aF] a63 am λcP=>(V (i64.wrap (e-1)) cP)) D) (K aN4 D))) (0<=(1:Int)/\zP (λt=>cond (decide (m>(i64.wrap ((u64.wrap (i64.wrap (a+b))).fdiv (2^(min (1:Int).toNat 64)))))) (t (i64.wrap ((i64.wrap ((i64.wrap ((u64.wrap (i64.wrap (a+b))).fdiv (2^(min (1:Int).toNat 64))))+m))-b)) (i64.wrap ((u64.wrap (i64.wrap (a+b))).fdiv (2^(min (1:Int).toNat 64)))) w) (t a m w)) λh ai an=>qI h ai an λs c f p=>eg c f (0<=(1:Int)/\Dr (λq=>qW data (i64.wrap ((i64.wrap ((i64.wrap ((i64.wrap ((u64.wrap (i64.wrap (a+b))).fdiv (2^(min (1:Int).toNat 64))))+m))-1))-(i64.wrap ((u64.wrap (i64.wrap (c+f))).fdiv (2^(min (1:Int).toNat 64)))))) 2 λad=>zM q ad λaG aH=>qW data (i64.wrap ((u64.wrap (i64.wrap (c+f))).fdiv (2^(min (1:Int).toNat 64)))) 2 λae=>zM q ae λaI aJ=>e1 P cmp #[.agg #[Iv aG,.int .u64 aH],.agg #[Iv aI,.int .u64 aJ]] q λah E=>∃M,ah=.returned (Iv M)/\cond (!(decide (M<0))) ((s (i64.wrap ((i64.wrap ((u64.wrap (i64.wrap (c+f))).fdiv (2^(min (1:Int).toNat 64))))+1)) f E)) ((s c (i64.wrap ((u64.wrap (i64.wrap (c+f))).fdiv (2^(min (1:Int).toNat 64)))) E))) p) (qg (λu=>qh (λv=>eg c m (v (decide (m<(i64.wrap ((i64.wrap ((i64.wrap ((u64.wrap (i64.wrap (a+b))).fdiv (2^(min (1:Int).toNat 64))))+m))-c)))) p) (v false p)) λaK G=>cond aK (qE JA #[Sv data,Iv c,Iv m,Iv (i64.wrap ((i64.wrap ((i64.wrap ((u64.wrap (i64.wrap (a+b))).fdiv (2^(min (1:Int).toNat 64))))+m))-c)),cmp] G λao=>u ao) (u G)) λF=>qg (λx=>qh (λy=>eg a c (y (decide (c<(i64.wrap ((u64.wrap (i64.wrap (a+b))).fdiv (2^(min (1:Int).toNat 64)))))) F) (y false F)) λR I=>cond R (qE uO #[Sv data,Iv a,Iv c,Iv (i64.wrap ((u64.wrap (i64.wrap (a+b))).fdiv (2^(min (1:Int).toNat 64)))),cmp] I λN=>x N) (x I)) λH=>qh (λi=>cond (decide ((i64.wrap ((u64.wrap (i64.wrap (a+b))).fdiv (2^(min (1:Int).toNat 64))))<(i64.wrap ((i64.wrap ((i64.wrap ((u64.wrap (i64.wrap (a+b))).fdiv (2^(min (1:Int).toNat 64))))+m))-c)))) (i (decide ((i64.wrap ((i64.wrap ((i64.wrap ((u64.wrap (i64.wrap (a+b))).fdiv (2^(min (1:Int).toNat 64))))+m))-c))<b)) H) (i false H)) λS k=>cond S (qE uO #[Sv data,Iv (i64.wrap ((u64.wrap (i64.wrap (a+b))).fdiv (2^(min (1:Int).toNat 64)))),Iv (i64.wrap ((i64.wrap ((i64.wrap ((u64.wrap (i64.wrap (a+b))).fdiv (2^(min (1:Int).toNat 64))))+m))-c)),Iv b,cmp] k λO=>K aN4 O) (K aN4 k))))
def MC(data:Sl)(a b:Int)(cmp:bE):=
 qO (i64.wrap (a+1)) w λh i5 o=>eg i5 b (qO i5 o λu c v=>qg (λi=>Dr (λd=>cond (decide (c>a)) (qW data c 1 λj=>qD d j λq=>qW data (i64.wrap (c-1)) 1 λk=>qD d k λr=>e1 P cmp #[Iv q,Iv r] d λl f=>∃g,l=.returned (Iv g)/\eg g 0 (i f) ((h (i64.wrap (i5+1)) f))) ((h (i64.wrap (i5+1)) d))) v) λm=>Dr (λe=>qW data (i64.wrap (c-1)) 1 λa23=>qD e a23 λs=>qW data c 1 λa25=>qD e a25 λt=>qW data c 1 λa27=>St a27 (Iv s) (λn=>qW data (i64.wrap (c-1)) 1 λa29=>St a29 (Iv t) (λp=>(u (i64.wrap (c-1)) p)) n) e) m) (K aN4 o)
def MD(data:Sl)(a m b:Int)(cmp:bE):=
 cond ((i64.wrap (m-a))==1) (qI m b w λN i5 i ag=>eg i5 i (0<=(1:Int)/\Dr (λM=>qW data (i64.wrap ((u64.wrap (i64.wrap (i5+i))).fdiv (2^(min (1:Int).toNat 64)))) 1 λaB=>qD M aB λaC=>qW data a 1 λR=>qD M R λan=>e1 P cmp #[Iv aC,Iv an] M λZ x=>∃I,Z=.returned (Iv I)/\eg I 0 ((N (i64.wrap ((i64.wrap ((u64.wrap (i64.wrap (i5+i))).fdiv (2^(min (1:Int).toNat 64))))+1)) i x)) ((N i5 (i64.wrap ((u64.wrap (i64.wrap (i5+i))).fdiv (2^(min (1:Int).toNat 64)))) x))) ag) (qO a ag λO d y=>cond (decide (d<(i64.wrap (i5-1)))) (Dr (λj=>qW data (i64.wrap (d+1)) 1 λS=>qD j S λao=>qW data d 1 λa23=>qD j a23 λap=>qW data d 1 λa25=>St a25 (Iv ao) (λae=>qW data (i64.wrap (d+1)) 1 λa27=>St a27 (Iv ap) (λaf=>(O (i64.wrap (d+1)) af)) ae) j) y) (K aN4 y))) (cond ((i64.wrap (b-m))==1) (qI a m w λo i33 g z=>eg i33 g (0<=(1:Int)/\Dr (λk=>qW data m 1 λa36=>qD k a36 λaq=>qW data (i64.wrap ((u64.wrap (i64.wrap (i33+g))).fdiv (2^(min (1:Int).toNat 64)))) 1 λT=>qD k T λar=>e1 P cmp #[Iv aq,Iv ar] k λaa A=>∃J,aa=.returned (Iv J)/\cond (!(decide (J<0))) ((o (i64.wrap ((i64.wrap ((u64.wrap (i64.wrap (i33+g))).fdiv (2^(min (1:Int).toNat 64))))+1)) g A)) ((o i33 (i64.wrap ((u64.wrap (i64.wrap (i33+g))).fdiv (2^(min (1:Int).toNat 64)))) A))) z) (qO m z λQ e B=>cond (decide (e>i33)) (Dr (λl=>qW data (i64.wrap (e-1)) 1 λU=>qD l U λau=>qW data e 1 λV=>qD l V λav=>qW data e 1 λa53=>St a53 (Iv au) (λah=>qW data (i64.wrap (e-1)) 1 λW=>St W (Iv av) (λai=>(Q (i64.wrap (e-1)) ai)) ah) l) B) (K aN4 B))) (0<=(1:Int)/\zP (λq=>cond (decide (m>(i64.wrap ((u64.wrap (i64.wrap (a+b))).fdiv (2^(min (1:Int).toNat 64)))))) (q (i64.wrap ((i64.wrap ((i64.wrap ((u64.wrap (i64.wrap (a+b))).fdiv (2^(min (1:Int).toNat 64))))+m))-b)) (i64.wrap ((u64.wrap (i64.wrap (a+b))).fdiv (2^(min (1:Int).toNat 64)))) w) (q a m w)) λh ad aj=>qI h ad aj λp c f cP=>eg c f (0<=(1:Int)/\Dr (λn=>qW data (i64.wrap ((i64.wrap ((i64.wrap ((i64.wrap ((u64.wrap (i64.wrap (a+b))).fdiv (2^(min (1:Int).toNat 64))))+m))-1))-(i64.wrap ((u64.wrap (i64.wrap (c+f))).fdiv (2^(min (1:Int).toNat 64)))))) 1 λX=>qD n X λaw=>qW data (i64.wrap ((u64.wrap (i64.wrap (c+f))).fdiv (2^(min (1:Int).toNat 64)))) 1 λY=>qD n Y λax=>e1 P cmp #[Iv aw,Iv ax] n λab C=>∃L,ab=.returned (Iv L)/\cond (!(decide (L<0))) ((p (i64.wrap ((i64.wrap ((u64.wrap (i64.wrap (c+f))).fdiv (2^(min (1:Int).toNat 64))))+1)) f C)) ((p c (i64.wrap ((u64.wrap (i64.wrap (c+f))).fdiv (2^(min (1:Int).toNat 64)))) C))) cP) (qg (λr=>qh (λs=>eg c m (s (decide (m<(i64.wrap ((i64.wrap ((i64.wrap ((u64.wrap (i64.wrap (a+b))).fdiv (2^(min (1:Int).toNat 64))))+m))-c)))) cP) (s false cP)) λay E=>cond ay (qE JB #[Sv data,Iv c,Iv m,Iv (i64.wrap ((i64.wrap ((i64.wrap ((u64.wrap (i64.wrap (a+b))).fdiv (2^(min (1:Int).toNat 64))))+m))-c)),cmp] E λak=>r ak) (r E)) λD=>qg (λt=>qh (λu=>eg a c (u (decide (c<(i64.wrap ((u64.wrap (i64.wrap (a+b))).fdiv (2^(min (1:Int).toNat 64)))))) D) (u false D)) λaz G=>cond az (qE uP #[Sv data,Iv a,Iv c,Iv (i64.wrap ((u64.wrap (i64.wrap (a+b))).fdiv (2^(min (1:Int).toNat 64)))),cmp] G λal=>t al) (t G)) λF=>qh (λv=>cond (decide ((i64.wrap ((u64.wrap (i64.wrap (a+b))).fdiv (2^(min (1:Int).toNat 64))))<(i64.wrap ((i64.wrap ((i64.wrap ((u64.wrap (i64.wrap (a+b))).fdiv (2^(min (1:Int).toNat 64))))+m))-c)))) (v (decide ((i64.wrap ((i64.wrap ((i64.wrap ((u64.wrap (i64.wrap (a+b))).fdiv (2^(min (1:Int).toNat 64))))+m))-c))<b)) F) (v false F)) λaA H=>cond aA (qE uP #[Sv data,Iv (i64.wrap ((u64.wrap (i64.wrap (a+b))).fdiv (2^(min (1:Int).toNat 64)))),Iv (i64.wrap ((i64.wrap ((i64.wrap ((u64.wrap (i64.wrap (a+b))).fdiv (2^(min (1:Int).toNat 64))))+m))-c)),Iv b,cmp] H λam=>K aN4 am) (K aN4 H))))
def ME(m:ch)(a:Int)(on:Bool):=
 NN m λq=>qK w q 1 λs=>qO 0 w λn b e=>fD b s.n (NN m λr=>qK e r 1 λt=>qW t b 1 λo=>∃f:Int,e.cell? o=some (.int .u64 f)/\q9 (λg=>dN on (g (ow .u64 f) e) (g f e)) λi c=>q9 (λh=>0<=(6:Int)/\cond (decide ((i64.wrap ((eE a 0)-(i64.wrap (b*2^(min (6:Int).toNat 64)))))≥64)) ((n (i64.wrap (b+1)) c)) (cond (decide ((i64.wrap ((eE a 0)-(i64.wrap (b*2^(min (6:Int).toNat 64)))))>0)) (0<=(u64.wrap (i64.wrap ((eE a 0)-(i64.wrap (b*2^(min (6:Int).toNat 64))))))/\0<=(u64.wrap (i64.wrap ((eE a 0)-(i64.wrap (b*2^(min (6:Int).toNat 64))))))/\h (u64.wrap ((i.fdiv (2^(min (u64.wrap (i64.wrap ((eE a 0)-(i64.wrap (b*2^(min (6:Int).toNat 64)))))).toNat 64)))*2^(min (u64.wrap (i64.wrap ((eE a 0)-(i64.wrap (b*2^(min (6:Int).toNat 64)))))).toNat 64))) c) (h i c))) λk j=>cond (k==0) ((n (i64.wrap (b+1)) j)) (0<=(6:Int)/\qQ JC #[.int .u64 k] j λl d=>NN m λa23=>qL d a23 0 λp=>cond (decide ((i64.wrap ((i64.wrap (b*2^(min (6:Int).toNat 64)))+l))<p)) (K (Iv (i64.wrap ((i64.wrap (b*2^(min (6:Int).toNat 64)))+l))) d) ((n (i64.wrap (b+1)) d)))) (K (Iv (-1)) e)
def MF(c d e f:Int)(a:Addr):=
 Al (.cells #[Iv c,Iv d,Iv e,Iv f] 107) (λb w2=>qD w2 a λg=>cond (decide (g>0)) (qL w2 b 0 λh=>qD w2 a λi=>qL w2 b 1 λj=>K (.bool (decide ((i64.wrap (h+i))>j))) w2) (K aN2 w2)) w
def MG:=
 qC #[Iv 1,Iv 8,Iv 40] w λa w2=>K (.slice (some a) 3 3) w2
def MH(x clock:Int):=
 zO CG #[.int .u64 x] w λd b c a=>dN c (K (Iv (-1)) a) (eg clock 0 (K (Iv (-1)) a) (K (Iv (dm .i64 (i64.wrap (clock-b)) 1099511627775)) a))
def MI(data:Sl)(a m b:Int)(cmp:bE):=
 qI (i64.wrap (m-a)) (i64.wrap (b-m)) w λe i5 c d=>cond (i5 !=c) (cond (decide (i5>c)) (qE xR #[Sv data,Iv (i64.wrap (m-i5)),Iv m,Iv c,cmp] d λg=>(e (i64.wrap (i5-c)) c g)) (qE xR #[Sv data,Iv (i64.wrap (m-i5)),Iv (i64.wrap ((i64.wrap (m+c))-i5)),Iv i5,cmp] d λh=>(e i5 (i64.wrap (c-i5)) h))) (qE xR #[Sv data,Iv (i64.wrap (m-i5)),Iv m,Iv i5,cmp] d λf=>K aN4 f)
def MJ(data:Sl)(a m b:Int)(cmp:bE):=
 qI (i64.wrap (m-a)) (i64.wrap (b-m)) w λe i5 c d=>cond (i5 !=c) (cond (decide (i5>c)) (qE xS #[Sv data,Iv (i64.wrap (m-i5)),Iv m,Iv c,cmp] d λg=>(e (i64.wrap (i5-c)) c g)) (qE xS #[Sv data,Iv (i64.wrap (m-i5)),Iv (i64.wrap ((i64.wrap (m+c))-i5)),Iv i5,cmp] d λh=>(e i5 (i64.wrap (c-i5)) h))) (qE xS #[Sv data,Iv (i64.wrap (m-i5)),Iv m,Iv i5,cmp] d λf=>K aN4 f)
def MK(x:Int):=
 cond (x==0) (K (Iv 64) w) (0<=(58:Int)/\cK (some (⟨2,0,none⟩:Addr)) 64 ((u64.wrap ((dm .u64 x (u64.wrap (0-x)))*285870213051353865)).fdiv (2^(min (58:Int).toNat 64))) 1 λb=>∃a:Int,w.cell? b=some (.int .u8 a)/\K (Iv (i64.wrap a)) w)
def ML(data:Sl)(a b n:Int)(cmp:bE):=
 qO 0 w λl i5 i=>eg i5 n (Dr (λc=>qW data (i64.wrap (b+i5)) 2 λm=>zM c m λo p=>qW data (i64.wrap (a+i5)) 2 λd=>zM c d λj k=>qW data (i64.wrap (a+i5)) 2 λe=>qU [Iv o,.int .u64 p] e c λg=>qW data (i64.wrap (b+i5)) 2 λf=>qU [Iv j,.int .u64 k] f g λh=>(l (i64.wrap (i5+1)) h)) i) (K aN4 i)
def MM(data:Sl)(a b n:Int)(cmp:bE):=
 qO 0 w λj i5 h=>eg i5 n (Dr (λc=>qW data (i64.wrap (b+i5)) 1 λk=>qD c k λl=>qW data (i64.wrap (a+i5)) 1 λa9=>qD c a9 λi=>qW data (i64.wrap (a+i5)) 1 λd=>St d (Iv l) (λf=>qW data (i64.wrap (b+i5)) 1 λe=>St e (Iv i) (λg=>(j (i64.wrap (i5+1)) g)) f) c) h) (K aN4 h)
variable{K w}
def X0(data n cmp)(h:Ml K w data n cmp):=bM (z8 [13,22,30,32,35,40,47,48,51,54,62] [] [(2,[(7,jZ),(8,jZ)]),(7,[(6,jZ)]),(9,[(7,jZ),(8,jZ)])]) #[Sv data,Iv n,cmp] K w func276 h
def X1(x)(h:XZ K w x):=bM (z8 [5]) #[.int .u64 x] K w func277 h
def X2(data n cmp)(h:Mm K w data n cmp):=bM (z8 [13,22,30,32,35,40,47,48,51,54,62] [] [(2,[(7,jZ),(8,jZ)]),(7,[(6,jZ)]),(9,[(7,jZ),(8,jZ)])]) #[Sv data,Iv n,cmp] K w func279 h
def X3(c g)(h:Mn K w c g):=bM {} #[Pv c,Iv g] K w func280 h
def X4(p)(h:Mo K w p):=bM (z8 [11]) #[Pv p] K w func281 h
def X5(c chain n)(h:Mq K w c chain n):=bM (z8 [21,29,36,38,51,63,66] [(5,[jQ 13],[12]),(11,[jQ 9],[8]),(12,[jQ 13],[12])] [(8,[(37,jZ)])]) #[Pv c,Sv chain,Iv n] K w func282 h
def X6(s i text)(h:Mr K w s i text):=bM (z8 [12,15,16]) #[Pv s,Iv i,.string text] K w func283 h
def X7(g)(h:Ms K w g):=bM (z8 [4,7]) #[Iv g] K w func284 h
def X8(group clock)(h:Mt K w group clock):=bM (z8 [8,13]) #[Iv group,Iv clock] K w func285 h
def X9(x)(h:Mu K w x):=bM {(z8 [14,19] [] [] [(4,[])]:dQ)with head:=λr=>(bif r==4 then 9 else 0)} #[.int .u64 x] K w func286 h
def Ya(x clock a)(h:Mv K w x clock a):=bM (z8 [12,16]) #[.int .u64 x,Iv clock,Iv a] K w func287 h
def Yb(l id group dZ)(h:Mw K w l id group dZ):=bM (z8 [13,16,20,24,41] [(9,[jQ 7],[6])] [] [(3,[]),(9,[])]) #[Pv l,Iv id,Iv group,.bool dZ] K w func288 h
def Yc(a values)(h:Mx K w a values):=bM (z8 [22,24,25,28,30,39,42,45,49,51,52,55,56,57] [] [(6,[(8,.int .u64),(9,.int .u64),(29,jZ)])] [(4,[]),(11,[])]) #[Sv a,Sv values] K w func291 h
def Yd(m i)(h:My K w m i):=bM (z8 [8,15,30,31] [] [] [(3,[])]) #[Pv m,Iv i] K w func293 h
def Ye(i)(h:Mz K w i):=bM (z8 [5,7,8,9]) #[Iv i] K w func294 h
def Yf(data a b cmp)(h:MA K w data a b cmp):=bM {(z8 [11,14,16,20,29,33,36,41,44] [(4,[jQ 17],[14]),(6,[jQ 18],[15,17])] [(1,[(8,jZ)]),(4,[(9,jZ)])] [(6,[])]:dQ)with dyn:=λd=>[32].contains d} #[Sv data,Iv a,Iv b,cmp] K w func296 h
def Yg(data a m b cmp)(h:MB K w data a m b cmp):=bM {(z8 [27,28,33,36,37,38,39,50,52,57,58,60,65,68,79,80,85,88,89,90,91,102,105,110,112,117,120,131,132,133,134,137,140,143,148,151,154,155,156,157,162,170,173,177,180,184,194,198,208,212] [(5,[jQ 11],[9]),(11,[jQ 18],[15,17]),(17,[jQ 12],[9]),(23,[jQ 18],[15,17]),(35,[jQ 14],[11])] [(3,[(10,jZ),(11,jZ)]),(9,[(13,jZ)]),(15,[(14,jZ),(15,jZ)]),(21,[(17,jZ)]),(33,[(20,jZ),(21,jZ)])] [(32,[(20,jZ),(21,jZ)]),(40,[(185,.bool)]),(41,[]),(42,[(199,.bool)]),(43,[]),(44,[(213,.bool)])]:dQ)with dyn:=λd=>[49,101,169].contains d} #[Sv data,Iv a,Iv m,Iv b,cmp] K w func297 h
def Yh(data a b cmp)(h:MC K w data a b cmp):=bM {(z8 [11,14,16,20,29,33,36,41,44] [(4,[jQ 17],[14]),(6,[jQ 18],[15,17])] [(1,[(8,jZ)]),(4,[(9,jZ)])] [(6,[])]:dQ)with dyn:=λd=>[32].contains d} #[Sv data,Iv a,Iv b,cmp] K w func298 h
def Yi(data a m b cmp)(h:MD K w data a m b cmp):=bM {(z8 [27,28,33,36,37,38,39,50,52,57,58,60,65,68,79,80,85,88,89,90,91,102,105,110,112,117,120,131,132,133,134,137,140,143,148,151,154,155,156,157,162,170,173,177,180,184,194,198,208,212] [(5,[jQ 11],[9]),(11,[jQ 18],[15,17]),(17,[jQ 12],[9]),(23,[jQ 18],[15,17]),(35,[jQ 14],[11])] [(3,[(10,jZ),(11,jZ)]),(9,[(13,jZ)]),(15,[(14,jZ),(15,jZ)]),(21,[(17,jZ)]),(33,[(20,jZ),(21,jZ)])] [(32,[(20,jZ),(21,jZ)]),(40,[(185,.bool)]),(41,[]),(42,[(199,.bool)]),(43,[]),(44,[(213,.bool)])]:dQ)with dyn:=λd=>[49,101,169].contains d} #[Sv data,Iv a,Iv m,Iv b,cmp] K w func299 h
def Yj(m a on)(h:ME K w m a on):=bM (z8 [12,17,19,34,35,38,41,44,45,47,48,50,52,55,61,63] [] [(3,[(18,jZ)])] [(8,[(8,.int .u64)]),(12,[(8,.int .u64)])]) #[Pv m,Iv a,.bool on] K w func300 h
def Yk(b c d e a)(h:MF K w b c d e a):=bM (z8 [5,10,13]) #[.agg #[Iv b,Iv c,Iv d,Iv e],Pv (some a)] K w func301 h
def Yl(h:MG K w):=bM {} #[] K w func302 h
def Ym(x clock)(h:MH K w x clock):=bM (z8 [18,22,23]) #[.int .u64 x,Iv clock] K w func303 h
def Yn(data a m b cmp)(h:MI K w data a m b cmp):=bM (z8 [14,17,20,23,27,34,38,41,43,49,53] [] [(2,[(10,jZ),(11,jZ)])]) #[Sv data,Iv a,Iv m,Iv b,cmp] K w func306 h
def Yo(data a m b cmp)(h:MJ K w data a m b cmp):=bM (z8 [14,17,20,23,27,34,38,41,43,49,53] [] [(2,[(10,jZ),(11,jZ)])]) #[Sv data,Iv a,Iv m,Iv b,cmp] K w func307 h
def Yp(x)(h:MK K w x):=bM (z8 [4,8,9,10,13]) #[.int .u64 x] K w func308 h
def Yq(data a b n cmp)(h:ML K w data a b n cmp):=bM (z8 [13,15,19,23,27,33] [(3,[jQ 24],[21,23])] [(1,[(10,jZ)])]) #[Sv data,Iv a,Iv b,Iv n,cmp] K w func309 h
def Yr(data a b n cmp)(h:MM K w data a b n cmp):=bM (z8 [13,15,19,23,27,33] [(3,[jQ 24],[21,23])] [(1,[(10,jZ)])]) #[Sv data,Iv a,Iv b,Iv n,cmp] K w func310 h
end Go.Mp
namespace Go.Kc
open Go Go.Vc
def nB(n:Int):u64.wrap n=n%18446744073709551616:=by
 unfold IntKind.wrap;simp[IntKind.signed,IntKind.bits]
def dq{n:Nat}(h:n<18446744073709551616:=by omega):u64.wrap (n:Int)=(n:Int):=by rw[nB];omega
def C8(n:Nat):u64.wrap (n:Int)=((n%18446744073709551616:Nat):Int):=by rw[nB];omega
def pC(a:Nat)(h:a<18446744073709551616):(BitVec.ofInt 64 (a:Int)).toNat=a:=by
 rw[pX,tu];exact mJ bu
def sC{a b:Nat}(c:a<18446744073709551616)(hb:b<18446744073709551616):dm .u64 (a:Int) (b:Int)=((a &&& b:Nat):Int):=by
 show u64.wrap ((BitVec.ofInt 64 (a:Int) &&& BitVec.ofInt 64 (b:Int)).toNat:Int)=_;rw[wb,pC a c,pC b hb];exact dq (Nat.and_lt_two_pow (n:=64) _ hb)
def uR{a b:Nat}(c:a<18446744073709551616)(hb:b<18446744073709551616):iY .u64 (a:Int) (b:Int)=((a ||| b:Nat):Int):=by
 show u64.wrap ((BitVec.ofInt 64 (a:Int) ||| BitVec.ofInt 64 (b:Int)).toNat:Int)=_;rw[BitVec.toNat_or,pC a c,pC b hb];exact dq (Nat.or_lt_two_pow (n:=64) c hb)
def Ys{a b:Nat}(c:a<18446744073709551616)(hb:b<18446744073709551616):ov .u64 (a:Int) (b:Int)=((a ^^^ b:Nat):Int):=by
 show u64.wrap ((BitVec.ofInt 64 (a:Int) ^^^ BitVec.ofInt 64 (b:Int)).toNat:Int)=_;rw[BitVec.toNat_xor,pC a c,pC b hb];exact dq (F3 (n:=64) c hb)
def Yt{a:Nat}(b:a<18446744073709551616):ow .u64 (a:Int)=((18446744073709551615 ^^^ a:Nat):Int):=by
 show u64.wrap ((BitVec.ofInt 64 ((18446744073709551615:Nat):Int) ^^^ BitVec.ofInt 64 (a:Int)).toNat:Int)=_;rw[BitVec.toNat_xor,pC a b,pC _ bu];exact dq (F3 (n:=64) bu b)
def sh(n k:Nat):(n:Int).fdiv (2^k)=((n/2^k:Nat):Int):=by
 rw[SU _ (by exact_mod_cast fj (2^k))]
 exact_mod_cast rfl
def wd:bA Bool->Nat
 |[]=>0
 |b::r=>b.toNat+2*wd r
def x1:∀(l:bA Bool) (k:Nat),(wd l).testBit k=l.getD k false
 |[],k=>by simp[wd]
 |b::r,0=>by
  unfold wd;rw[Nat.testBit_zero];cases b<;>simp
 |b::r,k+1=>by
  unfold wd;rw[Nat.testBit_succ,show(b.toNat+2*wd r)/2=wd r by cases b<;>simp<;>omega,x1 r k];simp
def MN:∀(l:bA Bool),wd l<2^l.length
 |[]=>by simp[wd]
 |b::r=>by
  have:=MN r;unfold wd;rw[hM,p3];have:b.toNat<=1:=by cases b<;>simp
  omega
def Yu{l:bA Bool}(h:l.length<=64):wd l<18446744073709551616:=
 lI (MN l) (tq bN h)
def Yv{l:bA Bool}{k:Nat}:wd l &&& 2^k=if l.getD k false then 2^k else 0:=by
 rw[<- x1];apply vW;intro i;rw[Nat.testBit_and,rG];by_cases e:k=i
 ·subst e;cases h:(wd l).testBit k<;>simp
 ·rw[dg e,rJ];split;·rw[rG,dg e]
  ·simp
def Yw{y:Nat}(a:y≠0)(h:y<18446744073709551616):Lib.ctz 64 y<64/\y.testBit (Lib.ctz 64 y)=true/\∀i,i<Lib.ctz 64 y->y.testBit i=false:=by
 unfold Lib.ctz;rw[bJ a];obtain⟨m,hm,hl⟩:=Lib.ctzFrom_spec 64 y bu (by simpa using h);generalize Lib.ctzFrom 64 y=c at*
 refine⟨hl,?_,λi b=>?_⟩;·rw[hm,Nat.testBit_two_pow_mul];simp
 ·rw[hm,Nat.testBit_two_pow_mul];simp;omega
def Yx{a i:Nat}(b:i<64):(18446744073709551615 ^^^ a).testBit i= !a.testBit i:=by
 rw[Nat.testBit_xor,show(18446744073709551615:Nat)=2^64-1 by decide,Nat.testBit_two_pow_sub_one,dF b];cases a.testBit i<;>rfl
def Yy(x a:Nat)(hx:x<18446744073709551616)(d:x≠0)(b:x &&& (18446744073709551616-x)=a):
  (u64.wrap ((dm .u64 (x:Int) (u64.wrap (0-(x:Int))))*285870213051353865)).fdiv (2^(min (58:Int).toNat 64))=((a*285870213051353865%18446744073709551616/288230376151711744:Nat):Int):=by
 have c:u64.wrap (0-(x:Int))=((18446744073709551616-x:Nat):Int):=by rw[nB];omega
 rw[c,sC hx bu,b,show((a:Int)*285870213051353865)=((a*285870213051353865:Nat):Int) by omega,C8];exact sh _ 58
end Go.Kc
namespace Go.Sp
open Go Go.Vc
section
variable{E:Env}{L:ct}{w:bI}{P:cN}
def Sep.putObj{b:Nat}{o o':Obj}(h:Sep E (c5 b o::L) w):Sep E (c5 b o'::L) (w.putObj b o'):=by
 have hb:=h.di;have c:b<w.heap.size:=(o1.1 hb).1;refine h.change (A':=c5 b o') rfl (by simp) (λF a hl=>⟨λx _ d=>?_,F,⟨?_,a.2⟩,λx hx=>⟨?_,.inl hx⟩⟩);·exact World.putObj_heap_other (λe=>d ((a.2 x).2 e))
 ·exact World.putObj_heap_same c
 ·simpa using hl x hx
def lk.i{l:Nat}{r:Loop}{f:bf8}(h:Sep E (c5 l (.loop r)::L) w)(hr:r.state=.ready)(k:∀a,Sep E (c5 l (.loop {r with state:=.busy})::L) a->f a):lk l f w:=
 ⟨r,h.di,hr,k _ h.putObj⟩
def e3.i{l:Nat}{r:Loop}{j:bV Code}{R:Ending->bf8}(h:Sep E (c5 l (.loop r)::L) w)(k:∀a,Sep E (c5 l (.loop {r with state:=if j.isNone then .ready else .done,pending:=j})::L) a->R (.returned (.bool j.isNone)) a):e3 l j R w:=
 ⟨r,h.di,k _ h.putObj⟩
def C9(P:cN)(E:Env)(f:bg5)(b:bE->cb bE)(A A' S:Asn)(xs:bA bE):Prop:=
 ∀(l:Nat) (J X:Nat->Asn),(∀L k x W,xs[k]?=some x->Sep E (J k::S::L) W->YieldAt Fence.wide 0 P l #[x] W (λe a=>
   (e=.returned (.bool true)/\Sep E (J (k+1)::S::L) a)\/(e=.returned (.bool false)/\Sep E (X k::S::L) a)))->
  ∀L W,Sep E (J 0::S::A::L) W->Calls P f (b (.func (.yield l) #[] #[])) W (λe a=>(∃v,e=.returned v)/\(Sep E (J xs.length::S::A'::L) a\/∃k,k<xs.length/\Sep E (X k::S::A'::L) a))
def iB.Da{τ:cc->K1}{ρ:cc->Kd}{cx:bg5->Bool}{An:dQ}{yl:Nat->Bool}{N p:Nat}{f:bg5}{fi ca:cb bE}{H:bE->cb bE}{A A' S:Asn}{xs:bA bE}{a body c:Code}{T:Tr}{done ret:Nat->bf8}(K:∀y,H y=fi++ #[y]++ca)(hm:P.follows .mixedOrders=true)(V:N<=8000)(hp:p<N)(q:gL P N An a=true/\gL P N An body=true)(hf:kO P f=true)(Z:C9 P E f H A A' S xs)(g D:Nat->Asn)(m:∀(l:Nat) (r:Loop) L k x W R,r.state=.ready->r.pending=none->xs[k]?=some x->Sep E (c5 l (.loop r)::g k::S::L) W->(∀d,Sep E (c5 l (.loop r)::g (k+1)::S::L) d->R (.returned (.bool true)) d)->
   (∀d,Sep E (c5 l (.loop {r with state:=.done,pending:=some c})::D k::S::L) d->R (.returned (.bool false)) d)->mo P τ ρ cx An yl N l a body (ln [(p,x)] T) W R)(h:Sep E (g 0::S::A::L) w)(n:∀b W,Sep E (c5 b (.deferred (some []))::g xs.length::S::A'::L) W->done b W)(F:∀b k W,k<xs.length->Sep E (c5 b (.deferred (some []))::D k::S::A'::L) W->ret b W):iB P N (.func (.func f) fi ca) #[p] a body c T w done ret:=by
 refine⟨f,fi,ca,_,rfl,K _,hf,λfn G M Q=>?_⟩;have h1:=h.nv (.deferred (some []));have h2:=h1.nv (.loop (sc fn G #[p] a body w.heap.size));rw[size_alloc]at h2;generalize hr:sc fn G #[p] a body w.heap.size=r at h2 ⊢;have s:r.state=.ready:=by rw[<- hr];rfl
 have u:r.pending=none:=by rw[<- hr];rfl
 have j:r.params= #[p]:=by rw[<- hr];rfl
 have z:r.tmps=G:=by rw[<- hr];rfl
 have B:r.assign=a:=by rw[<- hr];rfl
 have C:r.body=body:=by rw[<- hr];rfl
 generalize w.heap.size=b at h2 ⊢;have U:Sep E (star (c5 (b+1) (.loop r)) (star (c5 b (.deferred (some []))) (g 0))::S::A::L) ((w.alloc (.deferred (some []))).alloc (.loop r)):=
  Sep.star.2 ((Sep.star.2 ((h2.ro 3 [1,2,0] rfl))).swap)
 refine Calls.mono (Z (b+1) (λk=>star (c5 (b+1) (.loop r)) (star (c5 b (.deferred (some []))) (g k))) (λk=>star (c5 (b+1) (.loop {r with state:=.done,pending:=some c})) (star (c5 b (.deferred (some []))) (D k)))
  (λL' k x W hx Y=>?_) L _ U) (λe d he=>?_)
 ·have J:=Sep.star.1 ((Sep.star.1 Y).swap);have o:Sep E (c5 (b+1) (.loop r)::g k::S::c5 b (.deferred (some []))::L') W:=J.ro 4 [2,1,3,0] rfl;refine UZ (τ:=τ) (ρ:=ρ) (cx:=cx) (A:=An) (yl:=yl) (N:=N) (T:=T) hm V o.di (by rw[j];rfl) (by rw[z];exact M) (by rw[z];exact Q) (λt O=>?_) (by rw[B];exact q.1) (by rw[C];exact q.2) ?_
  ·rw[j]at O;have:t=p:=by simpa using O
   rw[this];exact hp
  ·have aa:(r.params.zip #[x]).toList= [(p,x)]:=by rw[j,Array.toList_zip];rfl
   have key:∀R,mo P τ ρ cx An yl N (b+1) a body (ln [(p,x)] T) W R->mo P τ ρ cx An yl N (b+1) r.assign r.body (ln (r.params.zip #[x]).toList T) W R:=by
    intro R X;rw[aa,B,C];exact X
   refine key _ (m (b+1) r _ k x W _ s u hx o (λd h'=>.inl ⟨rfl,?_⟩) (λd h'=>.inr ⟨rfl,?_⟩));·exact Sep.star.2 ((Sep.star.2 (h'.ro 4 [3,1,0,2] rfl)).swap)
   ·exact Sep.star.2 ((Sep.star.2 (h'.ro 4 [3,1,0,2] rfl)).swap)
 ·obtain⟨⟨v,rfl⟩,he⟩:=he;rcases he with he|⟨k,hk,he⟩
  ·have i:=Sep.star.1 he;refine⟨r,i.di,by rw[s];simp,?_⟩;have I:=(i.putObj (o':=.loop {r with state:=.exhausted})).tail;generalize d.putObj (b+1) (.loop {r with state:=.exhausted})=ab at I ⊢;rw[u];exact n _ _ (Sep.star.1 I)
  ·have i:=Sep.star.1 he;exact⟨_,i.di,by simp,rfl,F _ k _ hk (Sep.star.1 (i.putObj).tail)⟩
def x2(P:cN)(E:Env)(f:bg5)(b:bE->cb bE)(A A':Asn)(xs:bA bE):Prop:=
 ∀(l:Nat) (J X:Nat->Asn),(∀L k x W,xs[k]?=some x->Sep E (J k::L) W->YieldAt Fence.wide 0 P l #[x] W (λe a=>
   (e=.returned (.bool true)/\Sep E (J (k+1)::L) a)\/(e=.returned (.bool false)/\Sep E (X k::L) a)))->
  ∀L W,Sep E (J 0::A::L) W->Calls P f (b (.func (.yield l) #[] #[])) W (λe a=>(∃v,e=.returned v)/\(Sep E (J xs.length::A'::L) a\/∃k,k<xs.length/\Sep E (X k::A'::L) a))
abbrev Db(P:cN)(E:Env)(f:bg5)(ca:cb bE)(A A':Asn)(xs:bA bE):Prop:=x2 P E f (λy=> #[y]++ca) A A' xs
def iB.iO{τ:cc->K1}{ρ:cc->Kd}{cx:bg5->Bool}{An:dQ}{yl:Nat->Bool}{N p:Nat}{f:bg5}{fi ca:cb bE}{t:bE->cb bE}{A A':Asn}{xs:bA bE}{j body c:Code}{T:Tr}{done ret:Nat->bf8}(has:∀y,t y=fi++ #[y]++ca)(hm:P.follows .mixedOrders=true)(D:N<=8000)(hp:p<N)(u:gL P N An j=true/\gL P N An body=true)(hf:kO P f=true)(G:x2 P E f t A A' xs)(a o:Nat->Asn)(m:∀(l:Nat) (r:Loop) L k x W R,r.state=.ready->r.pending=none->xs[k]?=some x->Sep E (c5 l (.loop r)::a k::L) W->(∀i,Sep E (c5 l (.loop r)::a (k+1)::L) i->R (.returned (.bool true)) i)->
   (∀i,Sep E (c5 l (.loop {r with state:=.done,pending:=some c})::o k::L) i->R (.returned (.bool false)) i)->mo P τ ρ cx An yl N l j body (ln [(p,x)] T) W R)(h:Sep E (a 0::A::L) w)(n:∀b W,Sep E (c5 b (.deferred (some []))::a xs.length::A'::L) W->done b W)(s:∀b k W,k<xs.length->Sep E (c5 b (.deferred (some []))::o k::A'::L) W->ret b W):iB P N (.func (.func f) fi ca) #[p] j body c T w done ret:=
 iB.Da (S:=emp) (A:=A) (A':=A') (xs:=xs) has hm D hp u hf
  (λl J X F L W h=>(G l J X (λL k x W hx h=>(F L k x W hx (Sep.emp.2 h).swap).imp λ_ ⟨b,c,d,e,g⟩=>⟨b,c,d,e,g.mono λ_ _ he=>he.imp (λq=>⟨q.1,Sep.emp.1 q.2.swap⟩) (λq=>⟨q.1,Sep.emp.1 q.2.swap⟩)⟩) L W (Sep.emp.1 h.swap)).mono
   λ_ _ he=>⟨he.1,he.2.imp (λq=>(Sep.emp.2 q).swap) (λ⟨k,hk,q⟩=>⟨k,hk,(Sep.emp.2 q).swap⟩)⟩)
  a o (λl r L k x W R h1 h2 v z B C=>m l r (emp::L) k x W R h1 h2 v z B C) (Sep.emp.2 h).swap (λb W q=>n b W (q.ro 3 [0,1] rfl)) (λb k W hk q=>s b k W hk (q.ro 3 [0,1] rfl))
def iB.i{τ:cc->K1}{ρ:cc->Kd}{cx:bg5->Bool}{An:dQ}{yl:Nat->Bool}{N p:Nat}{f:bg5}{ca:cb bE}{A A':Asn}{xs:bA bE}{e body c:Code}{T:Tr}{done ret:Nat->bf8}(hm:P.follows .mixedOrders=true)(o:N<=8000)(hp:p<N)(n:gL P N An e=true/\gL P N An body=true)(hf:kO P f=true)(q:Db P E f ca A A' xs)(a j:Nat->Asn)(g:∀(l:Nat) (r:Loop) L k x W R,r.state=.ready->r.pending=none->xs[k]?=some x->Sep E (c5 l (.loop r)::a k::L) W->(∀d,Sep E (c5 l (.loop r)::a (k+1)::L) d->R (.returned (.bool true)) d)->
   (∀d,Sep E (c5 l (.loop {r with state:=.done,pending:=some c})::j k::L) d->R (.returned (.bool false)) d)->mo P τ ρ cx An yl N l e body (ln [(p,x)] T) W R)(h:Sep E (a 0::A::L) w)(i:∀b W,Sep E (c5 b (.deferred (some []))::a xs.length::A'::L) W->done b W)(m:∀b k W,k<xs.length->Sep E (c5 b (.deferred (some []))::j k::A'::L) W->ret b W):iB P N (.func (.func f) #[] ca) #[p] e body c T w done ret:=
 iB.iO (fi:= #[]) (λy=>by simp) hm o hp n hf q a j g h i m
end
end Go.Sp
namespace Go.Sp
open Go Go.Vc Go.RowKit Go.ChangeShapes
def Rd(P:cN)(W:bI)(t:cc)(cs:bA bE):Prop:=
 ∃(H:Type) (enc:cc×bE->H) (fuel:Nat) (x:DataW H×bA MemPlace),DataW.trod enc P W 0 (λ_=>true) true fuel t cs=some x
section
variable{P:cN}{W:bI}{t:cc}{cs:bA bE}
def Rd.int{k:IntKind}(h:Rd P W t cs)(a:P.underlying t=some (.int k)):∃n,cs= [.int k n]/\(Lit.int k n).wf=true:=by
 obtain⟨H,enc,fuel,x,h⟩:=h;obtain⟨n,h1,_,h2⟩:=DataW.trod_int a h;exact⟨n,h1,h2⟩
def Rd.bool(h:Rd P W t cs)(a:P.underlying t=some .bool):∃b,cs= [.bool b]:=by
 obtain⟨H,enc,fuel,x,h⟩:=h;obtain⟨n,h1,_⟩:=DataW.trod_bool a h;exact⟨n,h1⟩
def Rd.str(h:Rd P W t cs)(a:P.underlying t=some .string):∃s,cs= [.string s]/\s.size<=maxLen:=by
 obtain⟨H,enc,fuel,x,h⟩:=h;obtain⟨s,h1,_,h2⟩:=DataW.trod_string a h;exact⟨s,h1,h2⟩
def Rd.slice{e:cc}(h:Rd P W t cs)(g:P.underlying t=some (.slice e)):∃(p:ch) (n c:Nat),cs= [.slice p n c]/\n<=c/\c<=maxLen/\
  ∀i,i<n->∃a es,p=some a/\es.length=P.cellsOf e/\(∀j,j<P.cellsOf e->W.cell? ((a.add (i*P.cellsOf e)).add j)=es[j]?)/\Rd P W e es:=by
 obtain⟨H,enc,fuel,x,h⟩:=h;rcases DataW.trod_slice g h with⟨rfl,rfl⟩|⟨a,len,cap,elems,rest,n,rfl,rfl,rfl,_,h1,h2,k,d,_⟩
 ·exact⟨none,0,0,rfl,ek _,fj _,λi b=>bu⟩
 ·refine⟨some a,len,cap,rfl,h1,h2,λi b=>?_⟩;have:=d i b;rw[dP]at this;obtain⟨es,he,hr⟩:=Option.bind_eq_some_iff.1 this;obtain⟨_,hl,f⟩:=World.cells?_some he;exact⟨a,es,rfl,hl,f,H,enc,n,_,hr⟩
def Rd.struct{fs:cb Field}(h:Rd P W t cs)(c:P.underlying t=some (.struct fs)):cs.length=P.cellsOf t/\
  ∀(i:Nat) (f:Field),fs[i]?=some f->Rd P W f.type ((cs.drop f.offset).take (P.cellsOf f.type)):=by
 obtain⟨H,enc,fuel,x,h⟩:=h;obtain⟨xs,n,rfl,rfl,hl,hx,hf⟩:=DataW.trod_struct c h;refine⟨hl,λi f a=>?_⟩;have b:i<xs.length:=by
  rw[hx];rcases hN i fs.size with h' | h';·exact h'
  ·simp[h']at a
 have:=hf i f a;rw[dO b]at this;exact⟨H,enc,n,_,this⟩
def Rd.kB{k:IntKind}{v:bE}(h:Rd P W t [v])(a:P.underlying t=some (.int k)):∃n,v=.int k n/\(Lit.int k n).wf=true:=by
 obtain⟨n,h1,h2⟩:=h.int a;exact⟨n,by simpa using h1,h2⟩
def Rd.u8{v:bE}(h:Rd P W t [v])(a:P.underlying t=some (.int .u8)):∃n:UInt8,v=.int .u8 n.toNat:=by
 obtain⟨n,h1,h2⟩:=h.kB a;have:0<=n/\n<=255:=by simpa[Lit.wf,IntKind.has,IntKind.min,IntKind.max,IntKind.signed,IntKind.bits]using h2
 refine⟨n.toNat.toUInt8,?_⟩;have e:(n.toNat.toUInt8.toNat:Int)=n:=by
  show((n.toNat%2^8:Nat):Int)=n;omega
 rw[e];exact h1
def Rd.nC{e:cc}{v:bE}(h:Rd P W t [v])(b:P.underlying t=some (.slice e)):∃(p:ch) (n c:Nat),v=.slice p n c/\n<=c/\c<=maxLen/\
  ∀i,i<n->∃a es,p=some a/\es.length=P.cellsOf e/\(∀j,j<P.cellsOf e->W.cell? ((a.add (i*P.cellsOf e)).add j)=es[j]?)/\Rd P W e es:=by
 obtain⟨p,n,c,h1,h2⟩:=h.slice b;exact⟨p,n,c,by simpa using h1,h2⟩
def MO{r:Reach}{base:Nat}{v:bE}(h:Value.okWide P W r base t v)(hp:ej P t=some false):v.cells.toList= [v]:=by
 cases v with
 |agg cs=>
  exfalso;unfold ej at hp;cases hu:P.underlying t with
  |none=>simp[hu]at hp
  |some d=>cases d<;>simp[Value.okWide,Cell.okWide,Cell.ok,hu]at h hp
 |_=>rfl
end
section
variable{H:Type}{enc:cc×bE->H}{P:cN}
def Dc:∀ {ts:bA cc} {vs:bA bE} {a:bA (DataW H)} {ps:bA MemPlace} {w:bI} {b:Nat} {sp:Nat->Bool} {c:Bool},DataW.TrodAll enc P w b sp c ts vs a ps->vs.length=ts.length/\a.length=ts.length
 |[],[],[],_,_,_,_,_,_=>⟨rfl,rfl⟩
 |_::_,_::_,_::_,_,_,_,_,_,⟨_,_,_,h,_⟩=>by have:=Dc h;simp[this]
 |[],_::_,_,_,_,_,_,_,h=>h.elim
 |[],[],_::_,_,_,_,_,_,h=>h.elim
 |_::_,[],_,_,_,_,_,_,h=>h.elim
 |_::_,_::_,[],_,_,_,_,_,h=>h.elim
def MP:∀ {ts:bA cc} {vs:bA bE} {c:bA (DataW H)} {ps:bA MemPlace} {w:bI},DataW.TrodAll enc P w 0 (λ_=>true) true ts vs c ps->
  ∀(j:Nat) t v,ts[j]?=some t->vs[j]?=some v->Rd P w t v.cells.toList
 |[],[],[],_,_,_,j,_,_,h,_=>by simp at h
 |_::_,_::_,_::_,_,_,⟨_,_,⟨fuel,h1⟩,h2,_⟩,0,_,_,a,b=>by
  simp only[lH,fS]at a b;subst a b;exact⟨H,enc,fuel,_,h1⟩
 |_::_,_::_,_::_,_,_,⟨_,_,_,h2,_⟩,j+1,t,v,a,b=>MP h2 j t v (by simpa using a) (by simpa using b)
 |[],_::_,_,_,_,h,_,_,_,_,_=>h.elim
 |[],[],_::_,_,_,h,_,_,_,_,_=>h.elim
 |_::_,[],_,_,_,h,_,_,_,_,_=>h.elim
 |_::_,_::_,[],_,_,h,_,_,_,_,_=>h.elim
def MQ(hl:laidOutB P=true){W c:bI}(hb:Below W.heap.size W c):∀ {ts:bA cc} {vs:bA bE} {d:bA (DataW H)} {ps:bA MemPlace},(ts.all λt=>P.readableRec t&&Nat.blt t P.types.size)=true->
  (∀x∈ps,x.block<W.heap.size)->DataW.TrodAll enc P W 0 (λ_=>true) true ts vs d ps->DataW.TrodAll enc P c 0 (λb=>decide (b<W.heap.size)) true ts vs d ps
 |[],[],[],_,_,_,h=>h
 |t::ts,_::_,_::_,_,hr,a,⟨p,q,h1,h2,e⟩=>by
  subst e;simp only[y8,dy]at hr;exact⟨p,q,Below.trod hl hr.1.1 (by simpa using hr.1.2) h1 hb (λx hx=>a x (by simp[hx])),MQ hl hb hr.2 (λx hx=>a x (by simp[hx])) h2,rfl⟩
 |[],_::_,_,_,_,_,h=>h.elim
 |[],[],_::_,_,_,_,h=>h.elim
 |_::_,[],_,_,_,_,h=>h.elim
 |_::_,_::_,[],_,_,_,h=>h.elim
def Yz(hl:laidOutB P=true){f:Func}{s:ChangeSpec}{apart fresh handsOn:Bool}{W l:bI}{args:cb bE}{a gs:bA (DataW H)}{before:bA MemPlace}{tb:cc}(e:(f.params.toList.all λt=>P.readableRec t&&Nat.blt t P.types.size)=true)(j:varsRowed P s.vars=true)(b:f.resultTypes.toList= [tb])(w:P.underlying tb=some .bool)(i:a.length=f.params.size->gs.length=s.vars.length->s.fn H (a++gs)= {results:=[.lit (.bool true)],args:=a,vars:=gs})(r:DataW.Whole enc P f.params.toList s.vars apart W args.toList a gs before)(hb:Below W.heap.size W l):s.post enc P f apart fresh handsOn false W args (.bool true) l:=by
 have k:=r;obtain⟨p,q,m,o,rfl,z,A⟩:=r;have v:∀x∈p++q,x.block<W.heap.size:=λx hx=>k.lt x hx;have hlen:=Dc m;have u:gs.length=s.vars.length:=by
  have go:∀ {d:bA String} {gs:bA (DataW H)} {ps:bA MemPlace},DataW.TrodVars enc P W (λ_=>true) d gs ps->gs.length=d.length:=by
   intro d;induction d with
   |nil=>intro gs ps h;cases gs with
    |nil=>rfl
    |cons _ _=>exact h.elim
   |cons n d y=>intro gs ps h;cases gs with
    |nil=>exact h.elim
    |cons g gs=>
     obtain⟨_,_,_,_,_,_,_,_,_,_,h,_⟩:=h;simp[y h]
  exact go o
 have c:=i (by simpa using hlen.2) u;refine⟨a,gs,p++q,[],p,q,k,?_,?_,?_,hb.frame _,λh=>by cases h⟩
 ·rw[c,b];have:f.resultTypes.size=1:=by rw[<- tt,b];rfl
  rw[this];refine⟨[],[],⟨1,?_⟩,rfl,rfl⟩;unfold DataW.trod;rw[w];rfl
 ·rw[c];exact MQ hl hb e (λx hx=>v x (by simp[hx])) m
 ·rw[c];exact Below.trodVars hl hb j o
def Sep.start(W:bI):Sep (World.env W) [dZ W.heap] W:=
 ⟨rfl,λx=>x<W.heap.size,⟨λ_ _=>rfl,λ_=>l6⟩,λ_ hb=>⟨hb,id⟩,trivial⟩
def Sep.below{L:ct}{W a:bI}{i:Nat}(h:Sep (World.env W) L a)(d:L[i]?=some (dZ W.heap)):Below W.heap.size W a:=by
 have h:=h.fr i d;obtain⟨he,F,⟨h1,h2⟩,c,_⟩:=h;have e:=he;simp only[World.env,Env.mk.injEq]at e;refine⟨e.1,e.2.1,e.2.2,?_,h1⟩;rcases k2 W.heap.size with b|b;·omega
 ·have:=(c (W.heap.size-1) ((h2 _).2 bu)).1;omega
def Sep.oL{E:Env}{L:ct}{w W:bI}{i:Nat}(h:Sep E L w)(c:L[i]?=some (dZ W.heap)){a:Addr}{v:bE}(b:W.cell? a=some v):w.cell? a=some v:=by
 have h:=h.fr i c;have hb:a.block<W.heap.size:=by
  rcases hN a.block W.heap.size with h' | h';·exact h'
  ·simp[World.cell?,vV h']at b
 have:=h.kq a.block hb;unfold World.cell? at b ⊢;rw[this];exact b
end
end Go.Sp
namespace Go.Sp
open Go Go.Vc
def sD(P:cN)(a:cc->bV (bA cc)):bA Field->Nat->bV (bA cc)
 |[],_=>some []
 |f::fs,o=>match Nat.beq f.offset o,a f.type with
  |true,some l=>match Nat.beq (P.cellsOf f.type) l.length with
   |true=>match sD P a fs (o+l.length)with
    |some r=>some (l++r)
    |none=>none
   |false=>none
  |_,_=>none
def sE(P:cN):Nat->cc->bV (bA cc)
 |0,_=>none
 |d+1,t=>match P.underlying t with
  |some (.struct fs)=>match sD P (sE P d) fs.toList 0 with
   |some l=>match Nat.beq (P.cellsOf t) l.length with
    |true=>some l
    |false=>none
   |none=>none
  |some (.int _)=>some [t]
  |some .bool=>some [t]
  |some .string=>some [t]
  |some (.slice _)=>some [t]
  |_=>none
section
variable{P:cN}{W:bI}
def rf(P:cN)(W:bI):bA cc->bA bE->Prop
 |[],[]=>True
 |t::ts,v::vs=>Rd P W t [v]/\rf P W ts vs
 |_,_=>False
def rf.append:∀ {ts us:bA cc} {vs xs:bA bE},rf P W ts vs->rf P W us xs->rf P W (ts++us) (vs++xs)
 |[],_,[],_,_,h=>h
 |_::_,_,_::_,_,⟨h1,h2⟩,h=>⟨h1,h2.append h⟩
 |[],_,_::_,_,h,_=>h.elim
 |_::_,_,[],_,h,_=>h.elim
def Rd.leaves:∀(d:Nat) {t:cc} {ts:bA cc} {cs:bA bE},sE P d t=some ts->Rd P W t cs->rf P W ts cs:=by
 intro d;induction d with
 |zero=>intro t ts cs h;simp[sE]at h
 |succ d E=>
  intro t ts cs h hr;unfold sE at h;cases hu:P.underlying t with
  |none=>simp[hu]at h
  |some x=>
   cases x<;>simp only[hu]at h<;>try (simp at h;done)
   case bool=>
    simp only[fS]at h;subst h;obtain⟨b,rfl⟩:=hr.bool hu;exact⟨hr,trivial⟩
   case int k=>
    simp only[fS]at h;subst h;obtain⟨b,rfl,_⟩:=hr.int hu;exact⟨hr,trivial⟩
   case string=>
    simp only[fS]at h;subst h;obtain⟨b,rfl,_⟩:=hr.str hu;exact⟨hr,trivial⟩
   case slice e=>
    simp only[fS]at h;subst h;obtain⟨p,n,c,rfl,_⟩:=hr.slice hu;exact⟨hr,trivial⟩
   case struct fs=>
    cases j:sD P (sE P d) fs.toList 0 with
    |none=>simp[j]at h
    |some l=>
     simp only[j]at h;split at h
     ·next A=>
      simp only[fS]at h;subst h;obtain⟨hlen,u⟩:=hr.struct hu;rw[m9 A]at hlen;have key:∀(a:bA Field) (o:Nat) (l:bA cc),sD P (sE P d) a o=some l->(∀f∈a,Rd P W f.type ((cs.drop f.offset).take (P.cellsOf f.type)))->cs.length=o+l.length->rf P W l (cs.drop o):=by
       intro a;induction a with
       |nil=>
        intro o l hl _ q;simp only[sD,fS]at hl;subst hl;rw[kY (by simpa using Nat.le_of_eq q)];trivial
       |cons f a B=>
        intro o l hl m q;unfold sD at hl;split at hl
        ·next s ho v=>
         split at hl
         ·next hn=>
          split at hl
          ·next r z=>
           simp only[fS]at hl;subst hl;have y:=m9 ho;have w:=m9 hn;have h1:=m f (by simp);rw[y,w]at h1;have h2:=E v h1;have C:=B (o+s.length) r z (λg j=>m g (by simp[j])) (by rw[q,dd];omega);have e:cs.drop o=(cs.drop o).take s.length++cs.drop (o+s.length):=by
            rw[<- p1,fK]
           rw[e];exact h2.append C
          ·simp at hl
         ·simp at hl
        ·simp at hl
      have:=key fs.toList 0 l j (λf hf=>by
       obtain⟨i,D,rfl⟩:=je.1 hf;exact u i _ (by simp at D ⊢)) (by simpa using hlen)
      simpa using this
     ·simp at h
end
end Go.Sp
namespace Go.Sp
open Go Go.Vc
def eN{ι:Type}(f:ι->Asn):Asn:=
  ⟨λh F=>∃a:ι->Nat->Prop,(∀i,(f i).holds h (a i))/\(∀i j b,i≠j->a i b->¬ a j b)/\∀b,F b↔∃i,a i b,
   λ⟨a,h1,h2,c⟩ hl=>⟨a,λi=>(f i).loc (h1 i) (λb hb=>hl b ((c b).2 ⟨i,hb⟩)),h2,c⟩⟩
section
variable{E:Env}{L:ct}{w:bI}{ι:Type}[DecidableEq ι]
def e4(f:ι->Asn)(i:ι)(A:Asn):ι->Asn:=λj=>if j=i then A else f j
omit [DecidableEq ι] in
def eN.nil(h:Sep E L w){f:ι->Asn}(hf:∀i,f i=emp):Sep E (eN f::L) w:=by
 obtain⟨he,h⟩:=h;refine⟨he,λ_=>False,⟨λ_ _=>False,λi=>?_,λ_ _ _ _ h=>h.elim,λb=>⟨λh=>h.elim,λ⟨_,h⟩=>h.elim⟩⟩,λ_ h=>h.elim,h.weaken (λ_ hb=>hb.elim id id)⟩;rw[hf];exact λ_ h=>h
def eN.out{f:ι->Asn}(h:Sep E (eN f::L) w)(i:ι):Sep E (f i::eN (e4 f i emp)::L) w:=by
 obtain⟨he,F,⟨a,h1,h2,c⟩,g,o⟩:=h;refine⟨he,a i,h1 i,λb hb=>g b ((c b).2 ⟨i,hb⟩),λb=>∃j,j≠i/\a j b,⟨λj b=>j≠i/\a j b,λj=>?_,?_,λb=>l6⟩,?_,?_⟩
 ·unfold e4;split;·next d=>subst d;exact λb hb=>hb.1 rfl
  ·next d=>
   have e:(λb=>j≠i/\a j b)=a j:=by funext b;simp[d]
   show(f j).holds w.heap (λb=>j≠i/\a j b);rw[e];exact h1 j
 ·intro j k b n hb l;exact h2 j k b n hb.2 l.2
 ·rintro b ⟨j,m,hb⟩;refine⟨(g b ((c b).2 ⟨j,hb⟩)).1,?_⟩;rintro(hu|hu);·exact hu
  ·exact h2 j i b m hb hu
 ·refine o.weaken ?_;rintro b ((hu|hu)|⟨j,m,hu⟩);·exact hu.elim
  ·exact .inr ((c b).2 ⟨i,hu⟩)
  ·exact .inr ((c b).2 ⟨j,hu⟩)
def eN.MR{f:ι->Asn}{i:ι}{A:Asn}(h:Sep E (A::eN f::L) w)(r:f i=emp):Sep E (eN (e4 f i A)::L) w:=by
 obtain⟨he,F,h1,h2,G,⟨m,n,p,d⟩,g,q⟩:=h;have o:∀b,¬ m i b:=by
  have:=n i;rw[r]at this;exact this
 refine⟨he,λb=>F b\/G b,⟨λj b=>if j=i then F b else m j b,λj=>?_,?_,λb=>?_⟩,?_,?_⟩
 ·unfold e4;split;·next l=>subst l;simpa using h1
  ·next l=>simpa[l]using n j
 ·intro j k b e hb a;by_cases c:j=i
  ·by_cases hk:k=i;·exact e (c.trans hk.symm)
   ·simp only[c,g3]at hb;simp only[hk,gR]at a;exact(g b ((d b).2 ⟨k,a⟩)).2 (.inr hb)
  ·simp only[c,gR]at hb;by_cases hk:k=i
   ·simp only[hk,g3]at a;exact(g b ((d b).2 ⟨j,hb⟩)).2 (.inr a)
   ·simp only[hk,gR]at a;exact p j k b e hb a
 ·constructor
  ·rintro(hb|hb);·exact⟨i,by simpa using hb⟩
   ·obtain⟨j,c⟩:=(d b).1 hb;refine⟨j,?_⟩;have:j≠i:=by rintro rfl;exact o b c
    simpa[this]using c
  ·rintro⟨j,c⟩;by_cases h:j=i;·exact .inl (by simpa[h]using c)
   ·exact .inr ((d b).2 ⟨j,by simpa[h]using c⟩)
 ·rintro b (hb|hb);·exact h2 b hb
  ·exact⟨(g b hb).1,λhu=>hu⟩
 ·refine q.weaken ?_;rintro b (hu|hu|hu);·exact hu.elim
  ·exact .inl (.inr hu)
  ·exact .inr hu
def YA(f:ι->Asn)(i:ι)(A B:Asn):e4 (e4 f i A) i B=e4 f i B:=by
 funext j;unfold e4;split<;>simp_all
@[simp] theorem aKH(f:ι->Asn)(i:ι)(A:Asn):e4 f i A i=A:=by simp[e4]
def eN.back{f:ι->Asn}{i:ι}{A:Asn}(h:Sep E (A::eN (e4 f i emp)::L) w):Sep E (eN (e4 f i A)::L) w:=by
 have:=eN.MR (i:=i) h (by simp);rwa[YA]at this
end
end Go.Sp
namespace Go.Sp
open Go Go.Vc
def bw(s:Sl)(m:Nat)(vs:bA bE):Asn:=
 match s.p with
 |none=>cG (s.n=0/\s.c=0/\vs= []) emp
 |some a=>fa λspare:bA bE=>cG (a.off=0/\a.spot=none/\vs.length=s.n*m/\vs.length+spare.length=s.c*m/\s.n<=s.c) (bC a.block (vs++spare))
section
variable{E:Env}{L:ct}{w:bI}{P:cN}{s:Sl}{m:Nat}{vs:bA bE}
def bw.none_(h:Sep E L w):Sep E (bw ⟨none,0,0⟩ m []::L) w:=Sep.cG.2 ⟨⟨rfl,rfl,rfl⟩,Sep.emp.2 h⟩
def bw.make{b n c:Nat}{spare:bA bE}(h:Sep E (bC b (vs++spare)::L) w)(h1:vs.length=n*m)(h2:vs.length+spare.length=c*m)(a:n<=c):Sep E (bw ⟨some ⟨b,0,none⟩,n,c⟩ m vs::L) w:=
 Sep.ex.2 ⟨spare,Sep.cG.2 ⟨⟨rfl,rfl,h1,h2,a⟩,h⟩⟩
def bw.length(h:Sep E (bw s m vs::L) w):vs.length=s.n*m:=by
 unfold bw at h;split at h;·obtain⟨⟨h1,_,a⟩,_⟩:=Sep.cG.1 h;rw[h1,a];simp
 ·obtain⟨_,h⟩:=Sep.ex.1 h;exact(Sep.cG.1 h).1.2.2.1
def bw.im(h:Sep E (bw s m vs::L) w)(hn:0<s.n):∃b spare,s.p=some ⟨b,0,none⟩/\vs.length=s.n*m/\vs.length+spare.length=s.c*m/\s.n<=s.c/\Sep E (bC b (vs++spare)::L) w:=by
 unfold bw at h;split at h;·obtain⟨⟨h1,_⟩,_⟩:=Sep.cG.1 h;omega
 ·next a f=>
  obtain⟨spare,h⟩:=Sep.ex.1 h;obtain⟨⟨h1,h2,c,d,e⟩,h⟩:=Sep.cG.1 h;refine⟨a.block,spare,?_,c,d,e,h⟩;rw[f];cases a;simp_all
def bw.cell{b:Nat}{spare:bA bE}(h:Sep E (bC b (vs++spare)::L) w){j:Nat}(a:j<vs.length):w.cell? ⟨b,j,none⟩=vs[j]? :=by
 rw[h.cell,eM a]
def bw.el{i:Int}{f:Addr->Prop}(q:Nat)(h:Sep E L w)(c:L[q]?=some (bw s m vs))(a:0<=i)(h1:i<s.n)(k:∀b,s.p=some ⟨b,0,none⟩->(∀j,j<m->w.cell? ⟨b,i.toNat*m+j,none⟩=vs[i.toNat*m+j]?)->f ⟨b,i.toNat*m,none⟩):cK s.p s.n i m f:=by
 have h:=h.fr q c;obtain⟨b,spare,hp,hl,_,_,h⟩:=bw.im h bu;refine⟨⟨b,0,none⟩,hp,⟨a,h1⟩,?_⟩;rw[cf,fx];refine k b hp (λj d=>bw.cell h ?_);have:i.toNat*m+m<=s.n*m:=by
  rw[<- y9];exact k1 _ bu
 omega
def bw.st{b o:Nat}{v:bE}{f:bf8}(h:Sep E (bw s m vs::L) w)(hp:s.p=some ⟨b,0,none⟩)(ho:o<vs.length)(k:∀c,Sep E (bw s m (vs.set o v)::L) c->f c):St ⟨b,o,none⟩ v f w:=by
 have hl:=bw.length h;have hn:0<s.n:=by
  rcases k2 s.n with d|d
  ·have l:vs.length=0:=by rw[hl,d,ou]
   omega
  ·exact d
 obtain⟨j,spare,a,h1,h2,g,h⟩:=bw.im h hn;rw[hp]at a;simp only[fS,Addr.mk.injEq,and_true]at a;subst a;refine St.i h (by simp;omega) (λc e=>k c ?_);rw[rF _ _ ho]at e;have i:s=⟨some ⟨b,0,none⟩,s.n,s.c⟩:=by cases s;simp_all
 rw[i];exact bw.make (spare:=spare) e (by simpa using h1) (by simpa using h2) g
def bw.rO{b o:Nat}{xs:bA bE}{f:bf8}(h:Sep E (bw s m vs::L) w)(hp:s.p=some ⟨b,0,none⟩)(hx:0<xs.length)(ho:o+xs.length<=vs.length)(k:∀c,Sep E (bw s m (ig vs o xs)::L) c->f c):kN xs ⟨b,o,none⟩ f w:=by
 have hl:=bw.length h;have hn:0<s.n:=by
  rcases k2 s.n with d|d
  ·have n:vs.length=0:=by rw[hl,d,ou]
   omega
  ·exact d
 obtain⟨l,spare,a,h1,h2,i,h⟩:=bw.im h hn;rw[hp]at a;simp only[fS,Addr.mk.injEq,and_true]at a;subst a;refine kN.i h (by simp;omega) (λc g=>k c ?_);have e:ig (vs++spare) o xs=ig vs o xs++spare:=by
  rw[oF _ _ _ (by simp;omega),oF _ _ _ ho,rC bu,SS ho];simp
 rw[e]at g;have j:s=⟨some ⟨b,0,none⟩,s.n,s.c⟩:=by cases s;simp_all
 rw[j];exact bw.make (spare:=spare) g (by simpa using h1) (by simpa using h2) i
def sF(z:cb bE)(n:Nat):(Builtin.zeroCells z n).toList.length=n*z.size:=by simp[Builtin.zeroCells]
def bw.append{x:bE}{k:Nat}{news:bA bE}{st D ty:cc}{c9:Nat}{zs:bA bE}(h:Sep E (bw s m vs::L) w)(z:hi P st=some (c9,m,zs))(C:zs.length=m)(v:Src P m D x k news w)(hk:0<k)(p:(s.n+k)*(c9+1)<=70368744177664){G:Sl->bf8}(g:∀s' d,s'.n=s.n+k->Sep E (bw s' m (vs++news)::L) d->G s' d):
  ∃y:Sl,∃d,Sem.run P (Builtin.append_ #[st,D] ty #[.slice s.p s.n s.c,x]) w=.ok (.slice y.p y.n y.c) d/\G y d:=by
 have i:=v.newsLen;have J:(s.n+k)*c9+(s.n+k)<=70368744177664:=by rw[nc,fR]at p;exact p
 have n:∀c,c<s.n+k->Builtin.nextslicecap (s.n+k) c*c9<=281474976710656:=by
  intro c f;have hle:Builtin.nextslicecap (s.n+k) c<=2*(s.n+k)+1000:=by
   unfold Builtin.nextslicecap;split;·omega
   ·split;·omega
    ·have go:∀r c,c<=s.n+k+((s.n+k)+768)/4->Builtin.growBy (s.n+k) r c<=s.n+k+((s.n+k)+768)/4:=by
      intro r;induction r with
      |zero=>intro c f;exact f
      |succ r A=>
       intro c f;unfold Builtin.growBy;split;·exact f
       ·exact A _ bu
     have:=go 4 c bu;omega
  have h1:=k1 c9 hle;rw[kj,Gm]at h1;have h2:c9<=(s.n+k)*c9:=Nat.le_mul_of_pos_left _ bu;by_cases N:s.n+k<=1000
  ·have q:c9<=70368744177664:=by omega
   have t:Builtin.nextslicecap (s.n+k) c<=4*(s.n+k):=by
    unfold Builtin.nextslicecap;split;·omega
    ·split;·omega
     ·have go:∀r c,c<=s.n+k+((s.n+k)+768)/4->Builtin.growBy (s.n+k) r c<=s.n+k+((s.n+k)+768)/4:=by
       intro r;induction r with
       |zero=>intro c f;exact f
       |succ r A=>
        intro c f;unfold Builtin.growBy;split;·exact f
        ·exact A _ bu
      have:=go 4 c bu;omega
   have B:=k1 c9 t;rw[Gm]at B;omega
  ·have j:1000*c9<=(s.n+k)*c9:=k1 _ bu;omega
 unfold bw at h;split at h
 ·next hp=>
  obtain⟨⟨h1,h2,q⟩,h⟩:=Sep.cG.1 h;have h:=Sep.emp.1 h;rw[hp,h1,h2];refine jA.i h z v hk bu (by have:=n 0 bu;rw[h1,fx]at this;exact this) (λF c' d l t=>g _ d (by simp[h1]) ?_);subst q;refine bw.make (spare:=(Builtin.zeroCells zs.toArray (c'-k)).toList) t (by simpa using i) ?_ l;rw[sF];simp only[lJ,i,F7,C,<- kj];congr 1;omega
 ·next a I=>
  obtain⟨spare,h⟩:=Sep.ex.1 h;obtain⟨⟨h1,h2,q,t,B⟩,h⟩:=Sep.cG.1 h;obtain⟨b,o,sp⟩:=a;simp only at h1 h2;subst h1 h2;rw[I];have K:((s.n+k)*m)=s.n*m+k*m:=kj _ _ _;by_cases hr:s.n+k<=s.c
  ·have hle:(s.n+k)*m<=s.c*m:=k1 _ hr;refine append.i h z v (by simp;omega) (λ_=>by simp;omega) bu (λu=>bu) (λ_ d j=>g _ d rfl ?_) (λM=>bu)
   ·have e:ig (vs++spare) (0+s.n*m) news=vs++news++spare.drop news.length:=by
     rw[oF _ _ _ (by simp;omega),rC bu,iw bu,S9];rw[List.drop_eq_nil_of_le bu];simp only[lJ];congr 2;omega
    rw[e]at j;refine bw.make (spare:=spare.drop news.length) j (by simp;omega) (by simp;omega) hr
  ·refine append.i h z v (by simp;omega) (λu=>absurd u hr) bu (n _) (λu=>absurd u hr) (λ_ F c' d l j=>g _ d rfl ?_);have e:((vs++spare).drop 0).take (s.n*m)=vs:=by
    rw[rI,rC bu,iw bu]
   rw[e]at j;have H:=(j.fr 1 rfl).tail;refine bw.make (spare:=(Builtin.zeroCells zs.toArray (c'-(s.n+k))).toList) H (by simp;omega) ?_ l;rw[sF];simp only[dd,q,i,F7,C,<- kj];congr 1;omega
def Src.bC{b n c i:Nat}{C:bA bE}{a:cc}{c9:Nat}{zs:bA bE}(h:Sep E L w)(d:L[i]?=Option.some (Sp.bC b C))(f:hi P a=Option.some (c9,m,zs))(hl:C.length=n*m)(h1:∀u∈C,u.oneCell'=true):
  Src P m a (.slice (Option.some ⟨b,0,none⟩) n c) n C w:=by
 obtain⟨e,k,z,g,_⟩:=pj f;exact Src.ofSlice w g ⟨b,0,none⟩ n c C hl (λj u hu=>by rw[cf,h.cellAt i d,fx];exact hu) h1
end
end Go.Sp
namespace Go.Sp
open Go Go.Vc
def bQ{α:Type}(f:α->bA bE)(l:bA α):bA bE:=(l.map f).flatten
section
variable{α:Type}{f:α->bA bE}{m:Nat}(hf:∀a,(f a).length=m)
include hf
def n4(l:bA α):(bQ f l).length=l.length*m:=by
 induction l with
 |nil=>simp[bQ]
 |cons a l b=>
  have:bQ f (a::l)=f a++bQ f l:=rfl;rw[this,dd,hf,b,hM,kj,Nat.one_mul,rK]
def YB(l:bA α)(i j:Nat)(c:j<m):(bQ f l)[i*m+j]?=l[i]?.bind λa=>(f a)[j]? :=by
 induction l generalizing i with
 |nil=>simp[bQ]
 |cons a l b=>
  have:bQ f (a::l)=f a++bQ f l:=rfl;rw[this];cases i with
  |zero=>rw[eM (by rw[hf];omega)];simp
  |succ i=>
   rw[fM (by rw[hf,kj];omega),hf];have e:(i+1)*m+j-m=i*m+j:=by rw[kj];omega
   rw[e,b i];simp
def sG{l:bA α}{i:Nat}{a:α}(h:l[i]?=some a)(j:Nat)(b:j<m):(bQ f l)[i*m+j]?=(f a)[j]? :=by
 rw[YB hf l i j b,h];rfl
def Dd{l:bA α}{i j:Nat}{a a':α}{v:bE}(h:l[i]?=some a)(g:j<m)(c:f a'=(f a).set j v):(bQ f l).set (i*m+j) v=bQ f (l.set i a'):=by
 induction l generalizing i with
 |nil=>simp at h
 |cons b l d=>
  have e0:bQ f (b::l)=f b++bQ f l:=rfl;rw[e0];cases i with
  |zero=>
   simp only[lH,fS]at h;subst h;rw[rF _ _ (by rw[hf];omega),ou,fx,<- c];rfl
  |succ i=>
   rw[jx _ _ (by rw[hf,kj];omega),hf];have e:(i+1)*m+j-m=i*m+j:=by rw[kj];omega
   rw[e,d (by simpa using h)];rfl
def YC{l:bA α}{i j:Nat}{a a':α}{xs:bA bE}(h:l[i]?=some a)(q:j+xs.length<=m)(d:f a'=ig (f a) j xs):ig (bQ f l) (i*m+j) xs=bQ f (l.set i a'):=by
 induction l generalizing i with
 |nil=>simp at h
 |cons b l o=>
  have e0:bQ f (b::l)=f b++bQ f l:=rfl;have hlen:=n4 hf (b::l);have e:i<(b::l).length:=by
   rcases hN i (b::l).length with h' | h';·exact h'
   ·simp[gQ h']at h
  have hle:i*m+m<=(b::l).length*m:=by rw[<- y9];exact k1 _ e
  rw[oF _ _ _ (by rw[hlen];omega),e0];cases i with
  |zero=>
   simp only[lH,fS]at h;subst h;rw[oF _ _ _ (by rw[hf];omega)]at d;have c:bQ f ((b::l).set 0 a')=f a'++bQ f l:=rfl;rw[c,d,ou,fx,rC (by rw[hf];omega),SS (by rw[hf];omega)];simp
  |succ i=>
   have k:=n4 hf l;have g:i<l.length:=by simpa using e
   have n:i*m+m<=l.length*m:=by rw[<- y9];exact k1 _ g
   have:=o (by simpa using h);rw[oF _ _ _ (by rw[k];omega)]at this;have c:bQ f ((b::l).set (i+1) a')=f b++bQ f (l.set i a'):=rfl;rw[c,<- this,List.take_append,S9];have p:(i+1)*m+j-(f b).length=i*m+j:=by rw[hf,kj];omega
   have q2:(i+1)*m+j+xs.length-(f b).length=i*m+j+xs.length:=by rw[hf,kj];omega
   rw[p,q2,iw (by rw[hf,kj];omega),kY (by rw[hf,kj];omega)];simp
omit hf in
def m6(l l':bA α):bQ f (l++l')=bQ f l++bQ f l':=by simp[bQ]
omit hf in
def oM(a:α):bQ f [a]=f a:=by simp[bQ]
end
end Go.Sp
namespace Go.Sp
open Go Go.Vc Go.WideElems Go.WideShapes Go.RowKit
structure KeysOf(f:Int->bV bE)(l:bS):Prop where
 cX:l.Pairwise (· < ·)
 mem:∀k,k∈l↔(f k).isSome=true
def bD(l:bS):bA bE:=l.map (Value.int .i64)
@[simp] theorem YD(l:bS):(bD l).length=l.length:=by simp[bD]
@[simp] theorem x3(l:bS)(i:Nat):(bD l)[i]?=l[i]?.map (Value.int .i64):=by simp[bD]
def sH:∀(N:Nat) (l:bS),l.Nodup->(∀x∈l,0<=x/\x<N)->l.length<=N
 |0,l,_,h=>by
  cases l with
  |nil=>simp
  |cons x l=>have:=h x (by simp);omega
 |N+1,l,b,h=>by
  have h1:=sH N (l.filter (· ≠(N:Int))) (b.filter _) (λx hx=>by
   simp only[gG,gw]at hx;have:=h x hx.1;omega)
  by_cases hm:(N:Int)∈l
  ·have h2:(l.filter (· ≠(N:Int))).length=l.length-1:=by
    have:l.filter (· ≠(N:Int))=l.erase (N:Int):=by rw[b.erase_eq_filter];congr 1;funext x;simp[bne,decide_not];rfl
    rw[this,List.length_erase_of_mem hm]
   omega
  ·have:l.filter (· ≠(N:Int))=l:=by
    rw[vY];intro a c;simp only[ne_eq,gw];rintro rfl;exact hm c
   rw[this]at h1;omega
section
variable{E:Env}{L:ct}{w:bI}{P:cN}{f:Int->bV bE}{b:Nat}
def sI:bE->bV (DataW Unit×bA MemPlace):=λ_=>some (.lit (.bool true),[])
def cE.owns{i:Nat}{kt:cc}(h:Sep E L w)(A:L[i]?=some (cE b (Value.int .i64) f))(hk:P.underlying kt=some (.int .i64)){N:Nat}(o:∀k v,f k=some v->0<=k/\k<N)(hb:N<=17592186044416):
  ∃D:DataW Unit,w.ownsMap P kt sI b N D/\Maps.size D<=N/\∀g:bS,g.Perm (intKeys D)->g.Nodup/\∀k,k∈g↔(f k).isSome=true:=by
 obtain⟨es,ck,q,M⟩:=cE.at_ h A;have m:∀e∈es,∃k:Int,e.key=.int .i64 k/\f k=some e.val/\(Lit.int .i64 k).wf=true:=by
  intro e he;obtain⟨k,h1,h2⟩:=M.key e he;refine⟨k,h1,h2,?_⟩;have:=o k _ h2;simp only[Lit.wf,IntKind.min,IntKind.max,IntKind.signed,IntKind.bits,dy,gw];constructor<;>simp<;>omega
 let c:MapEntry->Int:=λe=>match e.key with | .int _ n=>n|_=>0
 have d:∀e∈es,e.key=.int .i64 (c e)/\f (c e)=some e.val/\(Lit.int .i64 (c e)).wf=true:=by
  intro e he;obtain⟨k,h1,h2,y⟩:=m e he;have:c e=k:=by simp only[c,h1]
  rw[this];exact⟨h1,h2,y⟩
 have j:(es.map c).Nodup:=by
  rw[og,kL];refine FL ?_ M.one;intro a b z hb s he;exact s (by rw[(d a z).1,(d b hb).1,he])
 have hlen:es.length<=N:=by
  have:=sH N (es.map c) j (λx hx=>by
   obtain⟨e,he,rfl⟩:=fA.1 hx;exact o _ _ (d e he).2.1)
  simpa using this
 have l:∀e∈es,rd P kt sI e=some (.int .i64 (c e),.lit (.bool true)):=by
  intro e he;have r:=d e he;unfold rd;rw[r.1,Maps.keyOf_int_mk hk r.2.2];rfl
 have t:es.map (rg P kt sI)=es.map λe=>(Lit.int .i64 (c e),(DataW.lit (.bool true):DataW Unit)):=by
  apply S4;intro e he;unfold rg;rw[l e he];rfl
 refine⟨.map ((es.map (rg P kt sI)).foldr DataW.insert []),⟨es.toArray,ck,q,⟨?_,?_,?_⟩,by simpa using hlen,by simp⟩,?_,?_⟩;·simp[maxLen];omega
 ·refine⟨by simpa using M.born,?_,?_⟩;·simp only[og,kL];exact M.lf
  ·simp only[og,kL];exact M.one
 ·intro x hx;exact⟨_,l x (by simpa using hx)⟩
 ·show((es.map (rg P kt sI)).foldr DataW.insert []).length<=N;rw[(sorted_perm _).length_eq];simpa using hlen
 ·intro g u;have hp:g.Perm (es.map c):=by
   refine u.trans ?_;show(((es.map (rg P kt sI)).foldr DataW.insert []).map λp=>intOf p.1).Perm _;refine((sorted_perm _).map _).trans ?_;rw[t,tG];exact List.Perm.of_eq (S4 (λe _=>rfl))
  refine⟨hp.nodup_iff.2 j,λk=>?_⟩;rw[hp.mem_iff,fA];constructor
  ·rintro⟨e,he,rfl⟩;rw[(d e he).2.1];rfl
  ·intro B;obtain⟨v,C⟩:=kX.1 B;obtain⟨e,he,h1,h2⟩:=M.has k v C;refine⟨e,he,?_⟩;have:=(d e he).1;rw[h1]at this;simpa using this.symm
def MS{d:bS}(hn:d.Nodup):(d.mergeSort λx y=>decide (x<=y)).Pairwise (· < ·):=by
 have h1:=List.pairwise_mergeSort (le:=λx y:Int=>decide (x<=y)) (by simpa using λa b c=>Int.le_trans) (by simpa using λa b=>Int.le_total a b) d;have h2:(d.mergeSort λx y=>decide (x<=y)).Nodup:=(yY _ _).nodup_iff.2 hn;rw[og]at h2;exact(h1.and h2).imp (λ{a b} h=>by have:=h.1;simp at this;have:=h.2;omega)
def De{W:bI}{v:bE}{l:bS}{d:cc}(h:Sep E L w)(hw:W.ownsRow w.heap.size d 1 v l.length (l.map encZ))(hb:RowKit.Below w.heap.size w W):
  ∃s:Sl,v=.slice s.p s.n s.c/\s.n=l.length/\Sep E (bw s 1 (bD l)::L) W:=by
 obtain⟨hl,f|⟨g,cap,cur,n,j,a,hle,k,e,b⟩⟩:=hw
 ·obtain⟨rfl,h1⟩:=f;have:l= []:=tn h1;subst this;refine⟨⟨none,0,0⟩,rfl,rfl,bw.none_ (h.grow ⟨hb.os,hb.tape,hb.output,hb.size,hb.block⟩)⟩
 ·refine⟨⟨some ⟨g,0,none⟩,l.length,cap⟩,n,rfl,?_⟩;have c:cur.toList=bD l++cur.toList.drop l.length:=by
   have:bD l=cur.toList.take l.length:=by rw[fR]at b;exact b.symm
   rw[this,fK]
  have m:cur.toList.length=cap:=by simpa using e
  have i:Sep E (bC g (bD l++cur.toList.drop l.length)::L) W:=by
   refine h.new ⟨hb.os,hb.tape,hb.output,hb.size,hb.block⟩ (F':=λx=>x=g) ⟨⟨d,(0,0),?_,λ_ _ o=>bu⟩,λ_=>l6⟩ (λx hx=>?_);·rw[a,<- c]
   ·subst hx;exact⟨j,(o1.1 a).1⟩
  exact bw.make i (by simp) (by simp;omega) hle
end
end Go.Sp
namespace Go.Sp
open Go Go.Vc
def bT{b:Bool}{A B:Prop}(h:b=true)(k:A):bif b then A else B:=by subst h;exact k
def bF{b:Bool}{A B:Prop}(h:b=false)(k:B):bif b then A else B:=by subst h;exact k
def cU{n i:Int}{A B:Prop}(h1:n<i->A)(h2:i<=n->B):bif decide (n<i)then A else B:=
 cv (λh=>h1 (by simpa using h)) (λh=>h2 (by simpa using h))
def h6{n i:Int}{A B:Prop}(h1:n<=i->A)(h2:i<n->B):bif decide (n<=i)then A else B:=
 cv (λh=>h1 (by simpa using h)) (λh=>h2 (by simpa using h))
def hs{n i:Int}{A B:Prop}(h1:i<=n->A)(h2:n<i->B):bif decide (n≥i)then A else B:=
 cv (λh=>h1 (by simpa using h)) (λh=>h2 (by simpa using h))
def fZ{n i:Int}{A B:Prop}(h1:i<n->A)(h2:n<=i->B):bif decide (n>i)then A else B:=
 cv (λh=>h1 (by simpa using h)) (λh=>h2 (by simpa using h))
def hJ{n i:Int}{A B:Prop}(h1:n≠i->A)(h2:n=i->B):bif(n !=i)then A else B:=
 cv (λh=>h1 (by simpa using h)) (λh=>h2 (by simpa using h))
def eQ{n i:Int}{A B:Prop}(h1:n=i->A)(h2:n≠i->B):bif(n==i)then A else B:=
 cv (λh=>h1 (by simpa using h)) (λh=>h2 (by simpa using h))
section
variable{E:Env}{L:ct}{w:bI}{P:cN}
def ld{α:Type}{mk:α->bE}{F:α->Prop}{a:Addr}{b o:Nat}{c:bA bE}{x:α}(h:Sep E L w)(i:Nat)(d:a=⟨b,o,none⟩)(e:L[i]?=some (bC b c))(f:c[o]?=some (mk x))(k:F x):
  ∃x,w.cell? a=some (mk x)/\F x:=⟨x,by rw[d,h.cellAt i e];exact f,k⟩
def et(f:bf8){b:Nat}{C vs:bA bE}(h:Sep E (bC b C::L) w)(c:C.length=vs.length)(k:∀a,Sep E (bC b vs::L) a->f a):kN vs ⟨b,0,none⟩ f w:=by
 refine kN.i h bu (λa h1=>k a ?_);rw[oF _ _ _ bu]at h1;simpa[<- c]using h1
def mu{s:Sl}{l:bS}{i:Int}{f:Addr->Prop}(q:Nat)(h:Sep E L w)(g:L[q]?=some (bw s 1 (bD l)))(hn:s.n=l.length)(d:0<=i)(h1:i<l.length)(k:∀a,w.cell? a=some (.int .i64 (l.getD i.toNat 0))->f a):cK s.p s.n i 1 f:=by
 refine bw.el q h g d bu (λb _ e=>k _ ?_);have:=e 0 bu;rw[lK]at this;rw[this,fR];have c:i.toNat<l.length:=by omega
 simp[c,List.getD,bD]
def YE{s:Sl}{l:bS}{i:Int}{f:Addr->Prop}(q:Nat)(h:Sep E L w)(p:L[q]?=some (bw s 1 (bD l)))(hn:s.n=l.length)(o:0<=i)(h1:i<l.length)(k:∀a,(∀ {L':ct} {w':bI} (d:Nat),Sep E L' w'->L'[d]?=some (bw s 1 (bD l))->w'.cell? a=some (.int .i64 (l.getD i.toNat 0)))->f a):cK s.p s.n i 1 f:=by
 refine bw.el q h p o bu (λb hb _=>k _ (λ{L' w'} d h' m=>?_));have h2:=h'.fr d m;obtain⟨n,spare,c,hl,_,_,h2⟩:=bw.im h2 bu;have e:n=b:=by rw[hb]at c;simpa using c.symm
 subst e;have:=bw.cell h2 (j:=i.toNat) (by rw[hl,hn];omega);rw[fR,this];have g:i.toNat<l.length:=by omega
 simp[g,List.getD,bD]
end
end Go.Sp
namespace Go.Sp
open Go Go.Vc
section
variable{E:Env}{L:ct}{w:bI}{P:cN}{s:Sl}{m:Nat}{vs:bA bE}
def YF{st k ty:cc}{c9:Nat}{zs:bA bE}{x:bE}(b:Src P m k x 0 [] w)(o:hi P st=some (c9,m,zs))(d:s.n<=s.c){G:Sl->bf8}(g:G s w):
  ∃a:Sl,∃j,Sem.run P (Builtin.append_ #[st,k] ty #[.slice s.p s.n s.c,x]) w=.ok (.slice a.p a.n a.c) j/\G a j:=by
 obtain⟨e,i,z,q,l,u,r,h,t⟩:=pj o;subst h;refine⟨s,w,?_,g⟩;obtain⟨p,n,c⟩:=s;have hl:=b.len;have f:=b.cells;simp only at d;rcases b.kind with⟨e',hk⟩|hk<;>cases p<;>simp[Builtin.append_,run_underlying q,run_underlying hk,sizeOf,typeInfo,l,hl,d,f,storeCells]
def bw.cap(h:Sep E (bw s m vs::L) w):s.n<=s.c:=by
 unfold bw at h;split at h;·obtain⟨⟨h1,h2,_⟩,_⟩:=Sep.cG.1 h;omega
 ·obtain⟨_,h⟩:=Sep.ex.1 h;exact(Sep.cG.1 h).1.2.2.2.2
def bw.app{x:bE}{k:Nat}{news:bA bE}{st i ty:cc}{c9:Nat}{zs:bA bE}(h:Sep E (bw s m vs::L) w)(f:hi P st=some (c9,m,zs))(j:zs.length=m)(e:Src P m i x k news w)(d:(s.n+k)*(c9+1)<=70368744177664){G:Sl->bf8}(g:∀s' a,s'.n=s.n+k->Sep E (bw s' m (vs++news)::L) a->G s' a):
  ∃b:Sl,∃a,Sem.run P (Builtin.append_ #[st,i] ty #[.slice s.p s.n s.c,x]) w=.ok (.slice b.p b.n b.c) a/\G b a:=by
 rcases k2 k with c|c
 ·subst c;have hn:news= []:=by
   have:=e.newsLen;rw[ou]at this;exact vU.1 this
  subst hn;exact YF e f (bw.cap h) (g s w rfl (by rw[hv];exact h))
 ·exact bw.append h f j e c d g
def Src.sub{q l n' c':Nat}{k:cc}{c9:Nat}{zs:bA bE}(h:Sep E L w)(p:L[q]?=some (bw s m vs))(hx:hi P k=some (c9,m,zs))(hl:l+n'<=s.n)(h1:∀u∈vs,u.oneCell'=true):
  Src P m k (.slice (gi s.p l s.c m) n' c') n' ((vs.drop (l*m)).take (n'*m)) w:=by
 obtain⟨e,y,z,i,_⟩:=pj hx;have h:=h.fr q p;have hlen:=bw.length h;have d:((vs.drop (l*m)).take (n'*m)).length=n'*m:=by
  have hle:(l+n')*m<=s.n*m:=k1 _ hl;rw[kj]at hle;simp only[hF,nR];omega
 have f:∀u∈(vs.drop (l*m)).take (n'*m),u.oneCell'=true:=λu hu=>h1 u (tr (nP hu));rcases k2 n' with g|g
 ·subst g;have e0:(vs.drop (l*m)).take (0*m)= []:=by rw[ou];rfl
  rw[e0];refine⟨.inl ⟨e,i⟩,λw'=>by simp[Builtin.lenOf],?_,?_,by simp,λu hu=>by cases hu⟩
  ·cases gi s.p l s.c m with
   |none=>exact run_firstCells_none w m 0 0 c'
   |some a=>exact run_firstCells_some w m 0 a 0 c' [] (by simp) (λj v c=>by simp at c)
  ·cases gi s.p l s.c m with
   |none=>exact run_firstCells_none w.drew m 0 0 c'
   |some a=>exact run_firstCells_some w.drew m 0 a 0 c' [] (by simp) (λj v c=>by simp at c)
 ·have o:=bw.cap h;obtain⟨b,spare,hp,r,t,x,h⟩:=bw.im h bu;have n:gi s.p l s.c m=some ⟨b,l*m,none⟩:=by
   unfold gi;rw[cD,hp,gg,cf,fx]
  rw[n];refine Src.ofSlice w i ⟨b,l*m,none⟩ n' c' _ d (λj u hu=>?_) f;have c:j<n'*m:=by
   have:=(cZ.1 hu).1;rwa[d]at this
  have hle:(l+n')*m<=s.n*m:=k1 _ hl;rw[kj]at hle;rw[cf,bw.cell h (by rw[hlen];omega)];rw[o3,bK c,pY]at hu;exact hu
def lV{α:Type}{f:α->bA bE}{l:bA α}(hf:∀a,(f a).length=m){F:Addr->Prop}{i:Int}{k:Nat}{a:α}(q:Nat)(h:Sep E L w)(o:L[q]?=some (bw s m (bQ f l)))(hn:s.n=l.length)(t:i=k)(d:l[k]?=some a)(p:∀b,s.p=some ⟨b,0,none⟩->(∀j v,(f a)[j]?=some v->w.cell? ⟨b,k*m+j,none⟩=some v)->F ⟨b,k*m,none⟩):cK s.p s.n i m F:=by
 have r:=(cZ.1 d).1;have g:i.toNat=k:=by omega
 refine bw.el q h o bu bu (λb hb e=>?_);rw[g]at e ⊢;refine p b hb (λj v n=>?_);have c:j<m:=by have:=(cZ.1 n).1;rwa[hf]at this
 rw[e j c,sG hf d j c];exact n
def sJ{α:Type}{f:α->bA bE}{l:bA α}(hf:∀a,(f a).length=m){F:bf8}{k j b:Nat}{a a':α}{v:bE}(h:Sep E (bw s m (bQ f l)::L) w)(hb:s.p=some ⟨b,0,none⟩)(d:l[k]?=some a)(i:j<m)(e:f a'=(f a).set j v)(n:∀c,Sep E (bw s m (bQ f (l.set k a'))::L) c->F c):St ⟨b,k*m+j,none⟩ v F w:=by
 have g:=(cZ.1 d).1;refine bw.st h hb ?_ (λc h1=>n c ?_)
 ·rw[n4 hf];have:(k+1)*m<=l.length*m:=k1 _ g;rw[y9]at this;omega
 ·rw[Dd hf d i e]at h1;exact h1
def Df{α:Type}{f:α->bA bE}(hf:∀a,(f a).length=m)(l:bA α)(k:Nat):(bQ f l).take (k*m)=bQ f (l.take k):=by
 by_cases hk:k<=l.length
 ·have e:bQ f l=bQ f (l.take k)++bQ f (l.drop k):=by rw[<- m6,fK]
  have hl:(bQ f (l.take k)).length=k*m:=by rw[n4 hf];simp[o6 hk]
  rw[e,rC bu,iw bu]
 ·rw[iw (by rw[n4 hf];exact k1 _ bu),iw bu]
def YG{α:Type}{f:α->bA bE}(hf:∀a,(f a).length=m)(l:bA α)(k:Nat):(bQ f l).drop (k*m)=bQ f (l.drop k):=by
 by_cases hk:k<=l.length
 ·have e:bQ f l=bQ f (l.take k)++bQ f (l.drop k):=by rw[<- m6,fK]
  have hl:(bQ f (l.take k)).length=k*m:=by rw[n4 hf];simp[o6 hk]
  rw[e,SS bu,kY bu,lJ]
 ·rw[kY (by rw[n4 hf];exact k1 _ bu),kY bu];rfl
end
end Go.Sp
namespace Go.Mp
open Go Go.Vc Go.Sp Go.Proofs Go.Kc
variable{E:Env}{L:ct}{w W:bI}
def sK{k:Nat}(h:k<64):2^k<18446744073709551616:=FU (a:=2) (n:=64) bN h
def x4{x k:Nat}(h:x<18446744073709551616)(hk:64<=k:=by omega):x.testBit k=false:=Nat.testBit_lt_two_pow (lI h (tq (n:=2) (i:=64) bN hk))
def pD(o:Obj):Prop:=∃(c:cb bE) (t:cc) (z:Nat×Nat),o=.cells c t z/\∀j,j<64->c[j]?=some (.int .u8 (Lib.deBruijn64tab.getD j 0:Nat))
def pD.cell{w:bI}{o:Obj}(h:pD o)(hb:w.heap[2]?=some o){j:Nat}(b:j<64):w.cell? ⟨2,j,none⟩=some (.int .u8 (Lib.deBruijn64tab.getD j 0:Nat)):=by
 obtain⟨c,t,z,rfl,a⟩:=h;unfold World.cell?;dsimp only;rw[hb];simpa using a j b
def hC(T:bA Bool)(j:Nat):Nat:=wd ((T.drop (64*j)).take 64)
def nW(n:Nat):Nat:=(n+63)/64
def mw(T:bA Bool):bA bE:=(List.range (nW T.length)).map λj=>Value.int .u64 (hC T j:Nat)
def sL(T:bA Bool):(mw T).length=nW T.length:=by simp[mw]
def uS{T:bA Bool}{j:Nat}(h:j<nW T.length):(mw T)[j]?=some (.int .u64 (hC T j:Nat)):=by simp[mw,h]
def pE(T:bA Bool)(j:Nat):hC T j<18446744073709551616:=Yu (by simp;omega)
def sM(T:bA Bool)(j k:Nat)(hk:k<64):(hC T j).testBit k=T.getD (64*j+k) false:=by
 unfold hC;rw[x1,dJ,dJ,o3,bK hk,pY]
def YH{T:bA Bool}{i:Nat}(f:i<T.length):(mw T).set (i/64) (.int .u64 ((hC T (i/64) ^^^ 2^(i%64):Nat)))=mw (T.set i (!T.getD i false)):=by
 apply hg;intro j;have hl:(T.set i (!T.getD i false)).length=T.length:=dW;by_cases b:j<nW T.length
 ·have d:j<nW (T.set i (!T.getD i false)).length:=by rw[hl];exact b
  rw[uS d];by_cases e:i/64=j
  ·subst e;rw[jd (by rw[sL];exact b)];congr 3;apply vW;intro k;by_cases hk:k<64
   ·rw[Nat.testBit_xor,sM _ _ _ hk,sM _ _ _ hk,rG];by_cases c:i%64=k
    ·have a:64*(i/64)+k=i:=by omega
     rw[dF c,a,dJ (l:=T.set i _),jd f];simp
    ·have a:i≠64*(i/64)+k:=by omega
     rw[dg c,dJ (l:=T.set i _),iE a,<- dJ,Bool.xor_false]
   ·rw[x4 (F3 (n:=64) (pE _ _) (sK (kM _ bN))),x4 (pE _ _)]
  ·rw[iE e,uS b];congr 3;apply vW;intro k;by_cases hk:k<64
   ·rw[sM _ _ _ hk,sM _ _ _ hk];have a:i≠64*j+k:=by omega
    rw[dJ (l:=T.set i _),iE a,<- dJ]
   ·rw[x4 (pE _ _),x4 (pE _ _)]
 ·rw[gQ (by rw[dW,sL];omega),gQ (by rw[sL,hl];omega)]
def jE(b:Nat)(T:bA Bool):Asn:=fa λs:Sl=>cG (s.n=nW T.length/\T.length<=65536) (star (bC b [Iv (T.length:Nat),Sv s]) (bw s 1 (mw T)))
def jE.get{b:Nat}{T:bA Bool}(h:Sep E (jE b T::L) w):∃s:Sl,s.n=nW T.length/\T.length<=65536/\Sep E (bC b [Iv (T.length:Nat),Sv s]::bw s 1 (mw T)::L) w:=by
 obtain⟨s,h⟩:=Sep.ex.1 h;obtain⟨hn,h⟩:=Sep.cG.1 h;exact⟨s,hn.1,hn.2,Sep.star.1 h⟩
def jE.mk{b:Nat}{T:bA Bool}{s:Sl}(hn:s.n=nW T.length)(hb:T.length<=65536)(h:Sep E (bC b [Iv (T.length:Nat),Sv s]::bw s 1 (mw T)::L) w):Sep E (jE b T::L) w:=
 Sep.ex.2 ⟨s,Sep.cG.2 ⟨⟨hn,hb⟩,Sep.star.2 h⟩⟩
def YI{n:Int}:min1 (eE n 0) 65536=((min (max n 0).toNat 65536:Nat):Int):=by
 unfold min1 eE;split<;>split<;>omega
def YJ(k:Nat):wd (List.replicate k false)=0:=by
 induction k with
 |zero=>rfl
 |succ k a=>rw[oo];unfold wd;rw[a];rfl
def YK(n:Int)(h:Sep E L w):Calls P Ix #[Iv n] w (cz λv w'=>∃b,v=Pb b/\Sep E (jE b (List.replicate (min (max n 0).toNat 65536) false)::L) w'):=by
 apply VX;unfold KC;rw[YI];generalize hm:min (max n 0).toNat 65536=m;have c:m<=65536:=by omega
 have e:(i64.wrap ((i64.wrap ((m:Int)+64))-1)).fdiv (2^(min (6:Int).toNat 64))=((nW m:Nat):Int):=by
  rw[cP (n:=(m:Int)+64) bu bu,cP bu bu,show(m:Int)+64-1=((m+63:Nat):Int) by omega];exact sh _ 6
 rw[e];have f:nW m<=2000:=by unfold nW;omega
 refine⟨bN,makeSlice.i h (by kernel_rfl:hi P U7=some (8,1,[.int .u64 0])) bu (g2 _) bu bu (λb g h1=>?_)⟩;refine Al.i h1 (λp w2 h2=>⟨p,rfl,?_⟩);refine jE.mk (s:=⟨some ⟨b,0,none⟩,nW m,nW m⟩) (by rw[mE]) (by rw[mE];exact c) ?_;rw[mE];have a:=h2.swap;refine Sep.swap (bw.make (spare:=[]) (vs:=mw (List.replicate m false)) ?_ (by rw[sL,mE,fR]) (by rw[sL,mE];simp) (ek _));have d:((List.range (((nW m:Nat):Int).toNat*1)).map λi=>(([Value.int .u64 0]:bA bE).toArray)[i%([Value.int .u64 0]:bA bE).length]!)=mw (List.replicate m false)++[]:=by
  rw[hv];unfold mw;rw[mE,dA,fR];apply S4;intro j _;have:hC (List.replicate m false) j=0:=by
   unfold hC;rw[List.drop_replicate,List.take_replicate];exact YJ _
  rw[this];simp[Nat.mod_one]
 rw[d]at a;exact a
variable{b:Nat}{T:bA Bool}
def YL{q:Nat}(h:Sep E L w)(a:L[q]?=some (jE b T)):Calls P H9 #[Pb b] w (cz λv w'=>v=Iv (T.length:Nat)/\w'=w):=by
 apply Vu;unfold Kh qL;obtain⟨s,_,_,h1⟩:=jE.get (h.fr q a);exact⟨_,rfl,_,h1.cell 0,rfl,rfl⟩
def Dg(i:Nat):dm .i64 (i:Int) 63=((i%64:Nat):Int):=by
 have h1:(BitVec.ofInt 64 (i:Int) &&& BitVec.ofInt 64 63).toNat=i%64:=by
  rw[wb,pX,tu];have:(BitVec.ofInt 64 63).toNat=63:=by decide
  rw[this];have h2:=tm (i%2^64) 6;rw[show(2:Nat)^6-1=63 by decide]at h2;rw[h2];omega
 show i64.wrap ((BitVec.ofInt 64 (i:Int) &&& BitVec.ofInt 64 63).toNat:Int)=_;rw[h1];exact cP bu bu
def uT(i:Nat)(w:bI):Calls P CJ #[Iv (i:Nat)] w (cz λv w'=>v=.tuple #[Iv ((i/64:Nat):Int),.int .u64 ((2^(i%64):Nat):Int)]/\w'=w):=by
 apply Ye;unfold Mz;have a:i%64<64:=kM _ bN;have hp:2^(i%64)<18446744073709551616:=sK a;rw[Dg,dq,show((i:Nat):Int).fdiv (2^(min (6:Int).toNat 64))=((i/64:Nat):Int)from sh i 6];refine⟨bN,bu,?_,rfl⟩;have e:(min ((i%64:Nat):Int).toNat 64)=i%64:=by rw[dA];omega
 rw[e,Int.one_mul];have b:((2:Int)^(i%64))=((2^(i%64):Nat):Int):=by push_cast;rfl
 rw[b,dq hp]
def YM{q:Nat}(h:Sep E L w)(k:L[q]?=some (jE b T))(i:Int):Calls P Jx #[Pb b,Iv i] w (cz λv w'=>v=.bool (decide (0<=i)&&T.getD i.toNat false)/\w'=w):=by
 apply Yd;unfold My qK qL qW qg zC;obtain⟨s,hn,hb,h1⟩:=jE.get (h.fr q k);refine⟨λw'=>w'=w/\0<=i/\i<T.length,cU (λd=>⟨by rw[dg bu];rfl,rfl⟩) (λd=>⟨_,rfl,_,h1.cell 0,hs (λc=>⟨?_,rfl⟩) (λc=>⟨rfl,d,c⟩)⟩),?_⟩;·rw[dJ,gQ bu];simp
 ·rintro _ w2 ⟨rfl,f,m⟩;obtain⟨n,rfl⟩:∃n:Nat,i=n:=⟨i.toNat,bu⟩
  refine use (uT n w2) ?_;rintro _ p ⟨rfl,rfl⟩;have j:n/64<nW T.length:=by unfold nW;omega
  refine⟨_,_,rfl,_,rfl,s,h1.cell 1,bw.el 1 h1 rfl bu bu (λo l g=>⟨((hC T (n/64):Nat):Int),?_,?_,rfl⟩)⟩
  ·have:=g 0 bN;rw[lK]at this;rw[this,fR,dA,uS j]
  ·rw[sC (pE _ _) (sK (kM _ bN))];have e:hC T (n/64) &&& 2^(n%64)=if T.getD n false then 2^(n%64)else 0:=by
    have a:=sM T (n/64) (n%64) (kM _ bN);rw[show 64*(n/64)+n%64=n by omega]at a;unfold hC at a ⊢;rw[Yv,<- x1,a]
   rw[e,dF f,dA];have hp:(2^(n%64):Nat)≠0:=Nat.pos_iff_ne_zero.1 (y5 _);cases T.getD n false with
   |true=>simp only[g3,l5];congr 1;rw[bne_iff_ne];omega
   |false=>simp
def jq(T:bA Bool)(i:Int)(on:Bool):bA Bool×Bool:=
 if i<0\/(T.length:Int)<=i\/T.getD i.toNat false=on then(T,false)else(T.set i.toNat on,true)
def MT(h:Sep E (jE b T::L) w)(i:Int)(on:Bool):Calls P CC #[Pb b,Iv i,.bool on] w (cW E (.bool (jq T i on).2) (jE b (jq T i on).1::L)):=by
 apply XS;unfold Mg qF qK qL qW qg zC;dsimp only;obtain⟨s,hn,hb,h1⟩:=jE.get h;have bad:(i<0\/(T.length:Int)<=i\/T.getD i.toNat false=on)->Value.bool false=.bool (jq T i on).2/\Sep E (jE b (jq T i on).1::L) w:=by
  intro a;unfold jq;rw[bK a];exact⟨rfl,h⟩
 refine⟨λw'=>w'=w/\∃n:Nat,i=n/\n<T.length/\on= !T.getD n false,cU (λa=>bad (.inl a)) (λa=>⟨_,rfl,_,h1.cell 0,hs (λo=>bad (.inr (.inl o))) (λo=>?_)⟩),?_⟩
 ·refine use (YM (q:=0) h rfl i) ?_;rintro _ f ⟨rfl,rfl⟩;rw[dF a,l5];refine⟨_,rfl,?_⟩;cases he:(T.getD i.toNat false==on)with
  |true=>exact bad (.inr (.inr (by simpa using he)))
  |false=>
   refine⟨rfl,i.toNat,bu,bu,?_⟩;have:T.getD i.toNat false≠on:=by simpa using he
   revert this;generalize T.getD i.toNat false=y;cases y<;>cases on<;>simp
 ·rintro _ w2 ⟨rfl,n,rfl,r,rfl⟩;refine use (uT n w2) ?_;rintro _ f ⟨rfl,rfl⟩;have p:n/64<nW T.length:=by unfold nW;omega
  have m:∀c,s.p=some ⟨c,0,none⟩->(∀j,j<1->f.cell? ⟨c,((n/64:Nat):Int).toNat*1+j,none⟩=(mw T)[((n/64:Nat):Int).toNat*1+j]?)->f.cell? ⟨c,((n/64:Nat):Int).toNat*1,none⟩=some (.int .u64 ((hC T (n/64):Nat):Int)):=by
   intro c _ d;have:=d 0 bN;rw[lK]at this;rw[this,fR,dA,uS p]
  refine⟨_,_,rfl,_,rfl,s,h1.cell 1,bw.el 1 h1 rfl bu bu (λc k d=>⟨_,m c k d,bw.el 1 h1 rfl bu bu (λb2 l _=>?_)⟩)⟩;rw[Ys (pE _ _) (sK (kM _ bN))];refine bw.st h1.swap l (by rw[sL,dA,fR];exact p) (λt g=>?_);have e:jq T (n:Int) (!T.getD n false)=(T.set n (!T.getD n false),true):=by
   unfold jq;rw[bJ,dA];rintro(a|a|a);·omega
   ·omega
   ·rw[dA]at a;revert a;generalize T.getD n false=y;cases y<;>decide
  rw[e];refine⟨rfl,jE.mk (by rw[dW];exact hn) (by rw[dW];exact hb) ?_⟩;rw[dA,fR,YH r]at g;rw[dW];exact g.swap
def Dh{w:bI}{o:Obj}(ho:pD o)(g:w.heap[2]?=some o){x:Nat}(d:x≠0)(hx:x<18446744073709551616):Calls P JC #[.int .u64 (x:Nat)] w (cz λv w'=>v=Iv (Lib.ctz 64 x:Nat)/\w'=w):=by
 apply Yp;unfold MK;refine eQ (λe=>absurd e bu) (λ_=>?_);obtain⟨b,hk⟩:=Lib.lowest_bit 64 x d hx;obtain⟨f,c⟩:=Lib.deBruijn64_at _ hk;rw[Yy x _ hx d b];have a:=ho.cell g f;rw[c]at a;refine⟨bN,⟨2,0,none⟩,rfl,⟨bu,by exact_mod_cast f⟩,((Lib.ctz 64 x:Nat):Int),?_,?_,rfl⟩;·rw[cf,fx,fR,dA];exact a
 ·rw[cP bu bu]
def YN{T:bA Bool}:∀ {n i:Nat},(∀j,j<i->T[j]?=some true)->T[i]?=some false->firstFree n T=some (n+i):=by
 induction T with
 |nil=>intro n i _ h;simp at h
 |cons b T c=>
  intro n i h1 h2;unfold firstFree;cases i with
  |zero=>simp only[lH,fS]at h2;subst h2;rfl
  |succ i=>
   have a:=h1 0 bu;simp only[lH,fS]at a;subst a;rw[bK rfl,c (n:=n+1) (i:=i) (λj d=>by simpa using h1 (j+1) bu) (by simpa using h2)];congr 1;omega
def YO{T:bA Bool}:∀ {n:Nat},(∀j,j<T.length->T[j]?=some true)->firstFree n T=none:=by
 induction T with
 |nil=>intro n _;rfl
 |cons b T d=>
  intro n h;have a:=h 0 (by simp);simp only[lH,fS]at a;subst a;unfold firstFree;rw[bK rfl];exact d (λj c=>by simpa using h (j+1) (by simpa using c))
def YP{o:Obj}(ho:pD o){q:Nat}(h:Sep E L w)(J:L[q]?=some (jE b T))(D:w.heap[2]?=some o):Calls P Jy #[Pb b,Iv 0,.bool false] w
  (cz λv w'=>v=Iv (match firstFree 0 T with|some i=>(i:Int)|none=> -1)/\w'=w):=by
 apply Yj;unfold ME q9 qK qL qO qQ qW;obtain⟨s,hn,hb,h1⟩:=jE.get (h.fr q J);have Q:nW T.length<=2000:=by unfold nW;omega
 refine⟨_,rfl,s,h1.cell 1,?_⟩;refine⟨λx w'=>w'=w/\∃j:Nat,x=j/\j<=nW T.length/\∀i,i<64*j->i<T.length->T[i]?=some true,λx _=>(nW T.length-x).toNat,⟨rfl,0,rfl,fj _,λi f=>bu⟩,?_⟩;rintro _ x K ⟨rfl,j,rfl,S,c⟩;have z:i64.wrap ((j:Int)+1)=((j+1:Nat):Int):=by rw[cP bu bu];omega
 refine cU (λO=>?_) (λN=>?_)
 ·have r:j<nW T.length:=by omega
  refine⟨_,rfl,s,h1.cell 1,bw.el 1 h1 rfl bu bu (λR M H=>⟨((hC T j:Nat):Int),?_,?_⟩)⟩
  ·have:=H 0 bN;rw[lK]at this;rw[this,fR,dA,uS r]
  ·generalize A:(18446744073709551615 ^^^ hC T j)=y;have p:y<18446744073709551616:=by rw[<- A];exact F3 (n:=64) bN (pE _ _)
   have d:∀k,k<64->y.testBit k= !T.getD (64*j+k) false:=λk hk=>by rw[<- A,Yx hk,sM _ _ _ hk]
   have next:(∀i,i<64*(j+1)->i<T.length->T[i]?=some true)->(∃B:Nat,i64.wrap ((j:Int)+1)=B/\B<=nW T.length/\∀i,i<64*B->i<T.length->T[i]?=some true):=λg=>⟨j+1,z,r,g⟩
   have hm:eE 0 0=0:=by decide
   have F:i64.wrap ((j:Int)*2^(min (6:Int).toNat 64))=((64*j:Nat):Int):=by
    have:((j:Int)*2^(min (6:Int).toNat 64))=((64*j:Nat):Int):=by
     show(j:Int)*2^6=_;omega
    rw[this];exact cP bu bu
   refine⟨λx w'=>x=(y:Nat)/\w'=K,?_,?_⟩
   ·refine bT rfl ⟨?_,rfl⟩;rw[Yt (pE _ _),A]
   ·rintro _ _ w2 ⟨rfl,rfl⟩;rw[hm,F];refine⟨λx w'=>x=(y:Nat)/\w'=w2,⟨bN,?_⟩,?_⟩
    ·rw[cP bu bu];refine hs (λg=>absurd g bu) (λ_=>fZ (λg=>absurd g bu) (λ_=>⟨rfl,rfl⟩))
    ·rintro _ _ U ⟨rfl,rfl⟩;refine eQ (λe=>?_) (λe=>?_)
     ·
      have e:y=0:=by omega
      refine⟨⟨rfl,next (λi f a=>?_)⟩,by dsimp only;rw[z];omega⟩;rcases hN i (64*j)with h2|h2;·exact c i h2 a
      ·have:=d (i-64*j) bu;rw[e,Nat.zero_testBit,show 64*j+(i-64*j)=i by omega,dJ,dO a]at this;rw[dO a];simp at this;rw[this]
     ·have u:y≠0:=by omega
      refine⟨bN,use (Dh ho D u p) ?_⟩;rintro _ V ⟨rfl,rfl⟩;obtain⟨hk,m,C⟩:=Yw u p;generalize Lib.ctz 64 y=k at*
      have G:i64.wrap ((((64*j:Nat):Int))+((k:Nat):Int))=((64*j+k:Nat):Int):=by rw[cP bu bu];omega
      refine⟨_,rfl,_,rfl,_,h1.cell 0,?_⟩;rw[G];have t:∀i,i<64*j+k->i<T.length->T[i]?=some true:=by
       intro i f a;rcases hN i (64*j)with h2|h2;·exact c i h2 a
       ·have:=C (i-64*j) bu;rw[d _ bu,show 64*j+(i-64*j)=i by omega,dJ,dO a]at this;rw[dO a];simp at this;rw[this]
      refine cU (λl=>?_) (λI=>?_)
      ·have l:64*j+k<T.length:=by omega
       have:T[64*j+k]?=some false:=by
        rw[d _ hk,dJ,dO l]at m;rw[dO l];simp at m;rw[m]
       rw[YN (n:=0) (λi f=>t i f bu) this];refine⟨?_,rfl⟩;dsimp only;rw[fx]
      ·refine⟨⟨rfl,next (λi f a=>t i bu a)⟩,by dsimp only;rw[z];omega⟩
 ·have:j=nW T.length:=by omega
  subst this;rw[YO (λi f=>c i (by unfold nW;omega) f)];exact⟨rfl,rfl⟩
def gA(p:Nat)(T:bA Bool):Asn:=fa λb:Nat=>cG (T.length<=1024) (star (bC p [Pb b]) (jE b T))
def gA.get{p:Nat}{T:bA Bool}(h:Sep E (gA p T::L) w):∃b,T.length<=1024/\Sep E (bC p [Pb b]::jE b T::L) w:=by
 obtain⟨b,h⟩:=Sep.ex.1 h;obtain⟨hn,h⟩:=Sep.cG.1 h;exact⟨b,hn,Sep.star.1 h⟩
def gA.mk{p b:Nat}{T:bA Bool}(hn:T.length<=1024)(h:Sep E (bC p [Pb b]::jE b T::L) w):Sep E (gA p T::L) w:=Sep.ex.2 ⟨b,Sep.cG.2 ⟨hn,Sep.star.2 h⟩⟩
def YQ(n:Int)(h:Sep E L w):Calls P Ia #[Iv n] w (cz λv w'=>∃p,v=Pb p/\Sep E (gA p (k8 n)::L) w'):=by
 apply Vx;unfold Kk qR;refine use (YK (min1 n 1024) h) ?_;rintro _ a ⟨b,rfl,h1⟩;have e:(min (max (min1 n 1024) 0).toNat 65536)=min (max n 0).toNat 1024:=by unfold min1;split<;>omega
 rw[e]at h1;exact⟨_,rfl,Al.i h1 (λp w2 h2=>⟨p,rfl,gA.mk (by unfold k8;rw[mE];omega) h2⟩)⟩
variable{p:Nat}
def YR{o:Obj}(ho:pD o)(h:Sep E (gA p T::L) w)(f:w.heap[2]?=some o):Calls P sw #[Pb p] w
  (cW E (.tuple #[Iv (fT T).2.1,Iv (fT T).2.2]) (gA p (fT T).1::L)):=by
 apply X4;unfold Mo qF qQ qZ;obtain⟨b,hb,h2⟩:=gA.get h;refine⟨_,rfl,_,h2.cell 0,use (YP ho (q:=1) h2 rfl f) ?_⟩;rintro _ w2 ⟨rfl,rfl⟩;refine⟨_,rfl,?_⟩;unfold fT;cases hf:firstFree 0 T with
 |none=>exact cU (λ_=>⟨rfl,h⟩) (λa=>absurd a bN)
 |some i=>
  dsimp only;obtain⟨_,c,_⟩:=AH hf;rw[Gr]at c;have g:=(cZ.1 c).1;refine cU (λa=>absurd a bu) (λ_=>⟨_,rfl,_,h2.cell 0,use (MT h2.swap (i:Int) true) ?_⟩);rintro _ j ⟨rfl,d⟩;have e:jq T (i:Int) true=(T.set i true,true):=by
   unfold jq;rw[bJ,dA];rintro(a|a|a);·omega
   ·omega
   ·rw[dA,dJ,c]at a;cases a
  rw[e]at d;exact⟨_,rfl,rfl,gA.mk (by rw[dW];exact hb) d.swap⟩
def YS(h:Sep E (gA p T::L) w)(i:Int):Calls P I9 #[Pb p,Iv i] w
  (cW E (Iv (np T i).2) (gA p (np T i).1::L)):=by
 apply Xj;unfold LH qF qQ qZ qh;obtain⟨b,hb,h2⟩:=gA.get h;refine⟨λx w'=>w'=w/\x=decide (i<0\/(T.length:Int)<=i),cU (λc=>⟨rfl,by rw[dF (.inl c)]⟩) (λc=>⟨_,rfl,_,h2.cell 0,use (YL (q:=1) h2 rfl) ?_⟩),?_⟩
 ·rintro _ w2 ⟨rfl,rfl⟩;refine⟨_,rfl,rfl,?_⟩;by_cases e:(T.length:Int)<=i;·rw[dF (show i≥(T.length:Int)from e),dF (.inr e)]
  ·rw[dg (show ¬ i≥(T.length:Int)from e),dg bu]
 ·rintro _ x w2 ⟨rfl,rfl⟩;unfold np;by_cases a:i<0\/(T.length:Int)<=i;·rw[dF a,bK a];exact⟨rfl,h⟩
  ·rw[dg a,bJ a];refine⟨_,rfl,_,h2.cell 0,use (MT h2.swap i false) ?_⟩;rintro _ f ⟨rfl,d⟩;refine⟨_,rfl,?_⟩;unfold jq at d ⊢;by_cases hf:T.getD i.toNat false=false
   ·rw[bK (.inr (.inr hf))]at d ⊢;rw[bK hf];exact⟨rfl,gA.mk hb d.swap⟩
   ·have hn:¬ (i<0\/(T.length:Int)<=i\/T.getD i.toNat false=false):=by
     rintro(c|c|c);·exact a (.inl c)
     ·exact a (.inr c)
     ·exact hf c
    rw[bJ hn]at d ⊢;rw[bJ hf];exact⟨rfl,gA.mk (by rw[dW];exact hb) d.swap⟩
end Go.Mp
namespace Go.Sp
open Go Go.Vc
variable{E:Env}{L:ct}{w:bI}
def Ints(E:Env)(L:ct)(s:Sl)(gs:bS):Prop:=s.n=gs.length/\∀w,Sep E L w->∀(i:Nat) x,gs[i]?=some x->∃a,s.p=some a/\w.cell? (a.add i)=some (.int .i64 x)
def Ints.of{L':ct}{s:Sl}{gs:bS}(h:Ints E L s gs)(hw:∀w,Sep E L' w->Sep E L w):Ints E L' s gs:=⟨h.1,λw a=>h.2 w (hw w a)⟩
def Ints.cons{A:Asn}{s:Sl}{gs:bS}(h:Ints E L s gs):Ints E (A::L) s gs:=h.of (λ_ a=>a.tail)
def Ints.el{s:Sl}{gs:bS}{i x:Int}{F:Int->Prop}(b:Ints E L s gs)(h:Sep E L w)(k:Nat)(g:i=k)(hx:gs[k]?=some x)(f:F x):cK s.p s.n i 1 λa=>∃v:Int,w.cell? a=some (.int .i64 v)/\F v:=by
 have d:=(cZ.1 hx).1;obtain⟨a,hp,c⟩:=b.2 w h k x hx;have:=b.1;refine⟨a,hp,⟨bu,bu⟩,x,?_,f⟩;have e:i.toNat*1=k:=by omega
 rw[e];exact c
def Ints.row{s:Sl}{gs:bS}(hn:s.n=gs.length):Ints E (bw s 1 (bD gs)::L) s gs:=by
 refine⟨hn,λw h i x hx=>?_⟩;have a:=(cZ.1 hx).1;obtain⟨b,spare,hp,h1,_,_,h2⟩:=bw.im h bu;refine⟨_,hp,?_⟩;rw[cf,fx,bw.cell h2 (by rw[h1];omega)];simp[bD,hx]
def Ints.at_{s:Sl}{gs:bS}{q:Nat}(a:L[q]?=some (bw s 1 (bD gs)))(hn:s.n=gs.length):Ints E L s gs:=
 (Ints.row (L:=L.eraseIdx q) hn).of (λ_ h=>h.fr q a)
def Ints.jr{b c:Nat}{gs:bS}{q:Nat}(a:L[q]?=some (bC b (bD gs))):Ints E L ⟨some ⟨b,0,none⟩,gs.length,c⟩ gs:=by
 refine⟨rfl,λw h i x hx=>⟨_,rfl,?_⟩⟩;rw[cf,fx,h.cellAt q a,x3,hx];rfl
def dc{k:Nat}(h:k<4611686018427387904:=by omega):i64.wrap ((k:Int)+1)=((k+1:Nat):Int):=by rw[cP bu bu];omega
def fL{α:Type}{l:bA α}{k:Nat}{c:α}(h:l[k]?=some c):l.take (k+1)=l.take k++[c]:=by rw[mG,h];rfl
def lo{α:Type}{f:α->bA bE}{m n:Nat}{l:bA α}{i:Int}{F:Addr->Prop}{b q:Nat}(hf:∀a,(f a).length=m)(h:Sep E L w)(o:L[q]?=some (bC b (bQ f l)))(hn:l.length=n)(g:0<=i)(h1:i<n)(k:∀a,l[i.toNat]?=some a->(∀j v,(f a)[j]?=some v->w.cell? ⟨b,i.toNat*m+j,none⟩=some v)->F ⟨b,i.toNat*m,none⟩):cK (some ((⟨b,0,none⟩:Addr).add 0)) n i m F:=by
 have c:i.toNat<l.length:=by omega
 refine⟨_,rfl,⟨g,h1⟩,?_⟩;rw[cf,cf,fx];refine k _ (dO c) (λj v d=>?_);have e:j<m:=by have:=(cZ.1 d).1;rwa[hf]at this
 rw[h.cellAt q o,sG hf (dO c) j e];exact d
end Go.Sp
namespace Go.Mp
open Go Go.Vc Go.Proofs
variable{K:bf9}{w:bI}
variable(K w)
def MU(cC cV:Int)(bW:Sl):=
 qR Bl #[Iv cC,Iv cV,Sv bW] w λd b=>Al (.cells #[Pv d,aN8] 71) (λa c=>K (Pv (some a)) c) b
def MV(v:ch):=
 NN v λa=>qZ w a 0 λb=>K (Pv b) w
def MW(v:ch)(E F G H I:Int):=
 Al (.cells #[Iv E,Iv F,Iv G,Iv H,Iv I] 37) (λb w2=>zW w2 λc ar=>Dr (λY=>qL Y b 0 λal=>Calls P H5 #[] Y λaq g=>∃ap:bV Nat,aq=.returned (.map ap)/\zH g b 0 (Iv al) λau=>∃h:bE,gp P 86 (.map ap) (Iv al) false g h/\∃k:Bool,kl P .neq 85 h .nilFunc k/\cond k (zL g b λaa ab ad ae af=>e1 P h #[Pv v,.agg #[Iv aa,Iv ab,Iv ad,Iv ae,Iv af]] g λB X=>∃s:Int,∃t:Int,∃u:Sl,B=.returned (.agg #[Iv s,Iv t,Sv u])/\qU [Iv s,Iv t,Sv u] c X λm=>zI m c λJ L M=>K (.agg #[Iv J,Iv L,Sv M]) m) (Dr (λn=>zZ n b λe x=>Calls P H6 #[] n λC d=>∃i:bV Nat,C=.returned (.map i)/\zH d b 1 (Iv x) λav=>zH d b 0 (Iv e) λaw=>∃f:bE,gp P 89 (.map i) (Iv e) false d f/\qR uz #[Pv v,Iv x] d λy a=>∃z:bE,gp P 89 (.map i) (Iv e) false a z/\(z:bE)=f/\zH a b 0 (Iv e) λax=>∃l:Bool,kl P .eql 88 f .nilFunc l/\cond l (qU [Iv 1,Iv 0,aN8] c a λo=>zI o c λN O Q=>K (.agg #[Iv N,Iv O,Sv Q]) o) (cond y.isNone (qU [Iv 2,Iv 0,aN8] c a λp=>zI p c λR S T=>K (.agg #[Iv R,Iv S,Sv T]) p) (zL a b λag ah ai aj ak=>Al (.cells #[Iv ag,Iv ah,Iv ai,Iv aj,Iv ak,Pv v,Pv y,Iv 0,Iv 0,aN8] 93) (λj Z=>e1 P f #[Pv (some j)] Z λD q=>D=.returned (.tuple #[])/\NN (some j) λA=>zI q (A.add 7) λam an ao=>qU [Iv am,Iv an,Sv ao] c q λr=>zI r c λU V W=>K (.agg #[Iv U,Iv V,Sv W]) r) a))) g)) ar) w
def MX(v:ch):=
 NN v λF=>qK w F 1 λx=>qf ⟨none,0,0⟩ 0 w λE k j i=>fD j x.n (qW x j 2 λa9=>zq i a9 λr s=>Al (.cells #[Iv 0,Pv none] 95) (λc m=>qU [Iv r,Pv s] c m λe=>zq e c λt u=>zz e λa n=>qU [Iv t,Iv 0,.bool (!u.isNone)] a n λb=>qg (λd=>qy b a 2 λy=>cond y (qZ b c 1 λz=>qQ H7 #[Pv z] b λA o=>St (a.add 1) (Iv A) (λp=>d p) o) (d b)) λf=>qa f a λB C D=>Al (.cells #[Iv B,Iv C,.bool D] 42) (λl q=>∃h:Sl,∃g:bI,Sem.run P (Builtin.append_ #[39,39] 39 #[Sv k,.slice (some l) 1 1]) q=.ok (Sv h) g/\(E h (i64.wrap (j+1)) g)) f) i) (K (Sv k) i)
def MY(v:ch)(pid:Int):=
 qg (λa=>eg pid 0 (K (Pv none) w) (NN v λa4=>qK w a4 1 λd=>cond (decide (pid≥((d.n:Nat):Int))) (K (Pv none) w) (a w))) λw2=>NN v λb=>qK w2 b 1 λe=>qW e pid 2 λc=>qZ w2 c 1 λf=>K (Pv f) w2
def MZ(s:ch):=
 qJ Bn #[Pv s,Iv 0,Iv 65536] w λb a=>K (Sv b) a
def M0(cC cV:Int)(bW l:Sl):=
 qR uy #[Iv cC,Iv cV,Sv bW] w λD C=>qf ⟨none,0,0⟩ 0 C λB a g f=>fD g l.n (qW l g 5 λh=>zL f h λn o p q r=>Al (.cells #[Iv 0,Iv 0,Iv 0,Iv 0,Iv 0] 37) (λb j=>qU [Iv n,Iv o,Iv p,Iv q,Iv r] b j λc=>zL c b λs t u v x=>zx n2 #[Pv D,.agg #[Iv s,Iv t,Iv u,Iv v,Iv x]] c λy z A k=>Al (.cells #[Iv y,Iv z,Sv A] 33) (λi m=>∃e:Sl,∃d:bI,Sem.run P (Builtin.append_ #[60,60] 60 #[Sv a,.slice (some i) 1 1]) m=.ok (Sv e) d/\(B e (i64.wrap (g+1)) d)) k) f) (K (Sv a) f)
def YT:=
 mL (λa w2=>∃b:bI,Sem.run P (Instr.mapUpdate 86 (.map (some a)) (Iv 0) (.func (.func xf) #[] #[])) w2=.ok () b/\∃c:bI,Sem.run P (Instr.mapUpdate 86 (.map (some a)) (Iv 1) (.func (.func xg) #[] #[])) b=.ok () c/\∃d:bI,Sem.run P (Instr.mapUpdate 86 (.map (some a)) (Iv 2) (.func (.func xh) #[] #[])) c=.ok () d/\∃e:bI,Sem.run P (Instr.mapUpdate 86 (.map (some a)) (Iv 3) (.func (.func xi) #[] #[])) d=.ok () e/\∃f:bI,Sem.run P (Instr.mapUpdate 86 (.map (some a)) (Iv 12) (.func (.func xj) #[] #[])) e=.ok () f/\∃g:bI,Sem.run P (Instr.mapUpdate 86 (.map (some a)) (Iv 13) (.func (.func xk) #[] #[])) f=.ok () g/\K (.map (some a)) g) w
def YU:=
 mL (λa w2=>∃c:bI,Sem.run P (Instr.mapUpdate 89 (.map (some a)) (Iv 4) (.func (.func xl) #[] #[])) w2=.ok () c/\∃d:bI,Sem.run P (Instr.mapUpdate 89 (.map (some a)) (Iv 11) (.func (.func xm) #[] #[])) c=.ok () d/\∃e:bI,Sem.run P (Instr.mapUpdate 89 (.map (some a)) (Iv 5) (.func (.func xn) #[] #[])) d=.ok () e/\∃f:bI,Sem.run P (Instr.mapUpdate 89 (.map (some a)) (Iv 6) (.func (.func xo) #[] #[])) e=.ok () f/\∃g:bI,Sem.run P (Instr.mapUpdate 89 (.map (some a)) (Iv 7) (.func (.func xp) #[] #[])) f=.ok () g/\∃h:bI,Sem.run P (Instr.mapUpdate 89 (.map (some a)) (Iv 8) (.func (.func xq) #[] #[])) g=.ok () h/\∃i:bI,Sem.run P (Instr.mapUpdate 89 (.map (some a)) (Iv 9) (.func (.func xr) #[] #[])) h=.ok () i/\∃b:bI,Sem.run P (Instr.mapUpdate 89 (.map (some a)) (Iv 10) (.func (.func xt) #[] #[])) i=.ok () b/\K (.map (some a)) b) w
def M1(s:ch):=
 NN s λa=>qZ w a 1 λc=>qQ H8 #[Pv c] w λd b=>K (Iv d) b
def M3(s:ch)(b k:Int):=
 NN s λy=>qZ w y 1 λA=>qJ xv #[Pv A,Iv b,Iv k] w λv z=>qf ⟨none,0,0⟩ 0 z λx c a h=>fD a v.n (qW v a 1 λi=>qD h i λo=>zy sj #[Pv s,Iv o] h λp q r t B l=>zu l λd m=>qU [Iv p,Iv q,.bool r,.bool t] d m λe=>qL e d 1 λu=>qC #[Iv u] e λj n=>∃g:Sl,∃f:bI,Sem.run P (Builtin.append_ #[22,22] 22 #[Sv c,.slice (some j) 1 1]) n=.ok (Sv g) f/\(x g (i64.wrap (a+1)) f)) (K (Sv c) h)
def M4(v:ch)(c d e f g:Int):=
 Al (.cells #[Iv c,Iv d,Iv e,Iv f,Iv g] 37) (λo w2=>zW w2 λh p=>Dr (λb=>NN v λn=>qZ b n 0 λr=>qL b o 1 λs=>qj Ie #[Pv r,Iv s] b λl m q=>qU [Iv m,Iv (eE l 0),aN8] h q λa=>zI a h λi j k=>K (.agg #[Iv i,Iv j,Sv k]) a) p) w
def M5(v:ch)(t u x y z:Int):=
 Al (.cells #[Iv t,Iv u,Iv x,Iv y,Iv z] 37) (λd w2=>zW w2 λj X=>qh (λp=>Dr (λh=>qL h d 1 λL=>cond (L !=0) (NN v λq=>qZ h q 0 λM=>qL h d 1 λn=>qR uA #[Pv M] h λN k=>zH k d 1 (Iv n) λY=>qF kb #[Pv N,Iv n] k λO G=>p O G) (p false h)) X) λi J=>NN v λr=>qK J r 1 λo=>qO 0 J λc b f=>fD b o.n (qW o b 2 λa28=>zq f a28 λP Q=>Al (.cells #[Iv 0,Pv none] 95) (λe H=>qU [Iv P,Pv Q] e H λa=>cond i (qZ a e 1 λR=>cond (!R.isNone) (qL a e 0 λS=>qL a d 1 λT=>cond (S==T) (qU [Iv 4,Iv 0,aN8] j a λl=>zI l j λA B C=>K (.agg #[Iv A,Iv B,Sv C]) l) ((c (i64.wrap (b+1)) a))) ((c (i64.wrap (b+1)) a))) ((c (i64.wrap (b+1)) a))) f) (Dr (λg=>NN v λs=>qZ g s 0 λU=>qL g d 1 λV=>qQ Ig #[Pv U,Iv V] g λW I=>qU [Iv W,Iv 0,aN8] j I λm=>zI m j λD E F=>K (.agg #[Iv D,Iv E,Sv F]) m) f)) w
def M6(v:ch)(d e f g h:Int):=
 Al (.cells #[Iv d,Iv e,Iv f,Iv g,Iv h] 37) (λc w2=>zW w2 λi q=>Dr (λa=>NN v λp=>qZ a p 0 λr=>qL a c 1 λs=>qL a c 2 λt=>qL a c 3 λn=>qQ Ih #[Pv r,Iv s,Iv t,Iv n] a λo m=>qU [Iv o,Iv 0,aN8] i m λb=>zI b i λj k l=>K (.agg #[Iv j,Iv k,Sv l]) b) q) w
def M7(v:ch)(k l m n o:Int):=
 Al (.cells #[Iv k,Iv l,Iv m,Iv n,Iv o] 37) (λc w2=>zW w2 λb M=>Dr (λj=>NN v λL=>qZ j L 0 λN=>qL j c 1 λJ=>qR uA #[Pv N] j λC B=>zH B c 1 (Iv J) λO=>qF kb #[Pv C,Iv J] B λD a=>dN D (qU [Iv 2,Iv 0,aN8] b a λd=>zI d b λp q r=>K (.agg #[Iv p,Iv q,Sv r]) d) (NN v λa20=>qK a a20 1 λE=>cond (decide (((E.n:Nat):Int)≥64)) (qU [Iv 3,Iv 0,aN8] b a λe=>zI e b λs t u=>K (.agg #[Iv s,Iv t,Sv u]) e) (Dr (λf=>qL f c 1 λi=>qR Ii #[] f λF g=>zH g c 1 (Iv i) λP=>zx Bw #[Pv v,Iv i,Pv F] g λG H I A=>qU [Iv G,Iv H,Sv I] b A λh=>zI h b λx y z=>K (.agg #[Iv x,Iv y,Sv z]) h) a))) M) w
def M8(v:ch)(c d e f g:Int):=
 Al (.cells #[Iv c,Iv d,Iv e,Iv f,Iv g] 37) (λn w2=>zW w2 λh o=>Dr (λb=>NN v λm=>qZ b m 0 λq=>qL b n 1 λr=>qQ Ij #[Pv q,Iv r] b λl p=>qU [Iv 0,Iv l,aN8] h p λa=>zI a h λi j k=>K (.agg #[Iv i,Iv j,Sv k]) a) o) w
def M9(v:ch)(c d e f g:Int):=
 Al (.cells #[Iv c,Iv d,Iv e,Iv f,Iv g] 37) (λh w2=>zW w2 λi p=>Dr (λa=>NN v λo=>qZ a o 0 λq=>qL a h 1 λr=>qL a h 2 λs=>qQ Ik #[Pv q,Iv r,Iv s] a λn m=>qU [Iv 0,Iv n,aN8] i m λb=>zI b i λj k l=>K (.agg #[Iv j,Iv k,Sv l]) b) p) w
def Na(c:ch):=
 Dr (λb=>NN c λr=>qZ b r 5 λs=>NN s λa4=>qZ b a4 0 λt=>NN c λg=>qL b (g.add 0) 2 λq=>qR uA #[Pv t] b λk j=>zH j (g.add 0) 2 (Iv q) λu=>qF kb #[Pv k,Iv q] j λl d=>dN l (NN c λe=>St ((e.add 7).add 0) (Iv 2) (λh=>K aN4 h) d) (Dr (λa=>NN c λf=>qZ a f 5 λm=>NN m λa20=>qK a a20 1 λn=>NN c λa22=>qL a (a22.add 0) 1 λo=>NN c λa24=>qL a (a24.add 0) 2 λp=>qW n o 2 λa26=>St (a26.add 0) (Iv p) (λi=>K aN4 i) a) d)) w
def Nb(c:ch):=
 Dr (λa=>NN c λb=>qZ a b 5 λe=>NN c λa4=>qL a (a4.add 0) 1 λf=>qE Bx #[Pv e,Iv f] a λd=>K aN4 d) w
def Nc(c:ch):=
 qF xy #[Pv c] w λl e=>cond l (Dr (λa=>NN c λa5=>qZ a a5 6 λm=>NN c λk=>qL a (k.add 0) 3 λn=>NN c λa9=>qL a (a9.add 0) 3 λh=>NN c λb=>qL a (b.add 0) 2 λi=>qQ xz #[Pv m,.agg #[Iv n,Iv (i64.wrap (h+i)),Iv 1,Iv 0,Iv 0,.bool true]] a λj f=>NN c λd=>St ((d.add 7).add 0) (Iv j) (λg=>K aN4 g) f) e) (K aN4 e)
def Nd(c:ch):=
 qF xy #[Pv c] w λP r=>dN P (K aN4 r) (qg (λM=>Dr (λd=>NN c λN=>qL d (N.add 0) 4 λQ=>eg Q 0 (NN c λi=>St ((i.add 7).add 0) (Iv 1) (λs=>K aN4 s) d) (NN c λf=>qL d (f.add 0) 4 λg=>NN c λj=>qZ d j 5 λy=>NN y λk=>qZ d k 0 λz=>qQ Il #[Pv z] d λA a=>zH a (f.add 0) 4 (Iv g) λR=>cond (decide (g≥A)) (NN c λa22=>St ((a22.add 7).add 0) (Iv 1) (λt=>K aN4 t) a) (NN c λa24=>qL a (a24.add 0) 2 λh=>NN c λa26=>qZ a a26 5 λB=>NN B λa28=>qZ a a28 0 λC=>NN c λl=>qL a (l.add 0) 4 λD=>qQ Im #[Pv C,Iv D] a λE e=>zH e (a24.add 0) 2 (Iv h) λS=>cond (decide (h>E)) (NN c λa36=>St ((a36.add 7).add 0) (Iv 1) (λu=>K aN4 u) e) (M e)))) r) λO=>Dr (λb=>NN c λm=>qZ b m 6 λF=>NN c λa41=>qL b (a41.add 0) 3 λG=>NN c λn=>qL b (n.add 0) 3 λH=>NN c λo=>qL b (o.add 0) 2 λI=>NN c λp=>qL b (p.add 0) 4 λJ=>qQ xz #[Pv F,.agg #[Iv G,Iv (i64.wrap (H+I)),Iv 2,Iv J,Iv 0,.bool true]] b λL v=>NN c λq=>St ((q.add 7).add 0) (Iv L) (λx=>K aN4 x) v) O)
def Nf(c:ch):=
 qF xy #[Pv c] w λn g=>cond n (Dr (λa=>NN c λa5=>qZ a a5 6 λo=>NN c λm=>qL a (m.add 0) 3 λp=>NN c λa9=>qL a (a9.add 0) 3 λj=>NN c λe=>qL a (e.add 0) 2 λk=>qJ Bz #[Pv o,Iv p,Iv (i64.wrap (j+k))] a λd b=>NN c λf=>qZ b f 5 λl=>qE BA #[Pv l,Sv d] b λh=>NN c λa20=>St ((a20.add 7).add 1) (Iv ((d.n:Nat):Int)) (λi=>K aN4 i) h) g) (K aN4 g)
def Ng(c:ch):=
 zk BB #[Pv c] w λj V W X Y Z aa y U=>zg U λd r=>qU [Iv V,Iv W,Iv X,Iv Y,Iv Z,.bool aa] d r λe=>dN y (NN c λk=>St ((k.add 7).add 0) (Iv 14) (λs=>K aN4 s) e) (qg (λf=>NN c λl=>qZ e l 6 λz=>zy sj #[Pv z,Iv j] e λA B C D E t=>zu t λq u=>qU [Iv A,Iv B,.bool C,.bool D] q u λa=>dN E (qL a d 2 λF=>cond (F==1) (K aN4 a) (f a)) (f a)) λg=>zR g d λG H I J L M=>qp BC #[Pv c,Iv j,.agg #[Iv G,Iv H,Iv I,Iv J,Iv L,.bool M]] g λN O h=>dN O (K aN4 h) (Dr (λb=>NN c λm=>qZ b m 5 λP=>NN P λn=>qZ b n 0 λQ=>NN c λo=>qL b (o.add 0) 2 λR=>qo Io #[Pv Q,Iv N,Iv (dm .i64 R 15)] b λS ab i=>NN c λa53=>qZ i a53 6 λT=>qF BD #[Pv T,Iv j] i λad v=>NN c λp=>St ((p.add 7).add 1) (Iv (i64.wrap S)) (λx=>K aN4 x) v) h))
def Nh(c:ch):=
 Al (.cells #[Pv c] 91) (λa w2=>qb w2 a λan=>zk BB #[Pv an] w2 λao ap aq ar I J L M am=>qC #[Iv 0] am λi A=>zg A λj B=>St i (Iv ao) (λC=>qU [Iv ap,Iv aq,Iv ar,Iv I,Iv J,.bool L] j C λe=>qg (λh=>qh (λm=>qb e a λO=>NN O λa28=>qL e (a28.add 0) 3 λQ=>eg Q 0 (m true e) (qb e a λR=>NN R λr=>qL e (r.add 0) 3 λS=>m (decide (S>255)) e)) λN b=>cond N (qb b a λT=>NN T λs=>St ((s.add 7).add 0) (Iv 1) (λD=>h D) b) (dN M (qb b a λU=>NN U λt=>St ((t.add 7).add 0) (Iv 14) (λE=>h E) b) (qy b j 5 λV=>dN V (qb b a λW=>NN W λa41=>St ((a41.add 7).add 0) (Iv 15) (λF=>h F) b) (h b)))) λf=>qb f a λX=>NN X λa44=>qL f (a44.add 7) 0 λY=>cond (Y !=0) (K aN4 f) (∃l:bf9,(qL f j 2 λZ=>cond (Z==2) (l (.func (.func Ir) #[] #[Pv (some a),Pv (some i),Pv (some j)]) f) (l (.func (.func Ip) #[] #[Pv (some a),Pv (some i)]) f))/\(∀al:Nat->bE,∀g:bE,∀n:bI,l g n->e1 P g #[] n λz o=>∃p:Int,∃q:Bool,z=.returned (.tuple #[Iv p,.bool q])/\cond q (Dr (λd=>qb d a λaa=>NN aa λa57=>qZ d a57 5 λab=>NN ab λu=>qZ d u 0 λad=>qb d a λae=>NN ae λv=>qL d (v.add 0) 2 λaf=>qb d a λag=>NN ag λx=>qL d (x.add 0) 3 λah=>qQ It #[Pv ad,Iv p,Iv (dm .i64 af 15),.int .u8 (IntKind.u8.wrap ah)] d λau G=>Dr (λk=>qb k a λai=>NN ai λy=>qZ k y 6 λaj=>qD k i λak=>qF BD #[Pv aj,Iv ak] k λav H=>K aN4 H) G) o) (K aN4 o)))) B) w
def Ni(c:ch):=
 NN c λB=>qZ w B 5 λF=>NN F λa3=>qK w a3 1 λG=>cond (decide (((G.n:Nat):Int)≥64)) (NN c λa5=>St ((a5.add 7).add 0) (Iv 3) (λD=>K aN4 D) w) (NN c λC=>qZ w C 6 λH=>qR Iu #[Pv H] w λe E=>qJ H3 #[Pv e] E λf l=>qO 0 l λg d b=>fD d f.n (qW f d 1 λa20=>qD b a20 λp=>NN c λa22=>qZ b a22 5 λq=>NN q λa24=>qZ b a24 0 λr=>qQ uC #[Pv r,Iv p,Iv 1] b λI m=>(g (i64.wrap (d+1)) m)) (Dr (λa=>NN c λh=>qZ a h 5 λs=>NN c λa32=>qZ a a32 5 λt=>NN t λi=>qK a i 1 λu=>NN c λa36=>qL a (a36.add 0) 1 λv=>qW u v 2 λj=>qL a j 0 λx=>zx Bw #[Pv s,Iv x,Pv e] a λy z A n=>NN c λk=>qU [Iv y,Iv z,Sv A] (k.add 7) n λo=>K aN4 o) b))
def Nj(t:ch):=
 qJ xw #[(.func (.func n3) #[Pv t] #[])] w λb a=>K (Iv ((b.n:Nat):Int)) a
def Di(t:ch)(a b:Int):=
 qC #[Iv a] w λg w2=>qC #[Iv b] w2 λh i=>Al (.cells #[aN8] 22) (λc j=>iB P 23 (.func (.func n3) #[Pv t] #[]) #[11] (j9 f68.body) (ka f68.body) (.exit 0) ((((((((ji [Pv t,Iv a,Iv b] 0 .nil).put (some 4) (Pv (some g))).put (some 5) (Pv (some h))).put (some 6) (aN8)).put (some 7) (Pv (some c))).put (some 9) (Pv t)).put (some 10) (.func (.func n3) #[Pv t] #[]))) j (λb7 d=>qc d c λk=>d.heap[b7]?=some (.deferred (some []))/\K (Sv k) (d.putObj b7 (.deferred none))) (λb8 e=>qc e c λf=>e.heap[b8]?=some (.deferred (some []))/\K (Sv f) (e.putObj b8 (.deferred none)))) i
def Nk(s:ch)(bL:Int):=
 zu w λa w2=>NN s λa3=>qZ w2 a3 1 λA=>zh sk #[Pv A,Iv bL] w2 λB C o=>dN C (qU [Iv 0,Iv 0,.bool false,.bool false] a o λp=>zn p a λe f g h=>K (.tuple #[.agg #[Iv e,Iv f,.bool g,.bool h],.bool false]) p) (zt BE #[.int .u64 B] o λq r t u D m=>zu m λb n=>qU [Iv q,Iv r,.bool t,.bool u] b n λc=>zn c b λv x y z=>qU [Iv v,Iv x,.bool y,.bool z] a c λd=>zn d a λi j k l=>K (.tuple #[.agg #[Iv i,Iv j,.bool k,.bool l],.bool true]) d)
def Nl(v:ch)(group:Int)(s:ch):=
 zW w λd w2=>NN v λa3=>qK w2 a3 1 λm=>Al (.cells #[Iv group,Pv s] 95) (λk l=>∃j:Sl,∃h:bI,Sem.run P (Builtin.append_ #[69,69] 69 #[Sv m,.slice (some k) 1 1]) l=.ok (Sv j) h/\NN v λa9=>St (a9.add 1) (Sv j) (λa=>NN v λc=>qK a c 1 λi=>qU [Iv 0,Iv (i64.wrap (((i.n:Nat):Int)-1)),aN8] d a λb=>zI b d λe f g=>K (.agg #[Iv e,Iv f,Sv g]) b) h) w2
def Nm:=
 qR xB #[] w λd b=>Al (.cells #[aN8,Pv d] 112) (λa c=>K (Pv (some a)) c) b
def Nn(v:ch)(pid:Int):=
 NN v λf=>qK w f 1 λh=>qW h pid 2 λa3=>qZ w a3 1 λi=>qJ Bz #[Pv i,Iv 0,Iv 65536] w λj g=>qE BA #[Pv v,Sv j] g λd=>NN v λa=>qK d a 1 λe=>qW e pid 2 λb=>St (b.add 1) (Pv none) (λc=>K aN4 c) d
def No(c:ch):=
 NN c λg=>qL w (g.add 0) 2 λk=>qF BH #[Iv k] w λl b=>dN l (NN c λh=>St ((h.add 7).add 0) (Iv 1) (λj=>K aN2 j) b) (NN c λi=>qL b (i.add 0) 3 λm=>qF BH #[Iv m] b λf a=>dN f (NN c λd=>St ((d.add 7).add 0) (Iv 1) (λe=>K aN2 e) a) (K aN3 a))
def Np(s:ch)(i j k l m:Int)(n:Bool):=
 zY #[Iv i,Iv j,Iv k,Iv l,Iv m,.bool n] w λo w2=>Dr (λc=>NN s λa4=>qK c a4 0 λp=>zR c o λq r t u f g=>zF IG #[Sv p,.agg #[Iv q,Iv r,Iv t,Iv u,Iv f,.bool g]] c λh a b=>cond (a==0) (NN s λd=>St (d.add 0) (Sv h) (λe=>K (Iv a) e) b) (K (Iv a) b)) w2
def Nq(s:ch)(a c:Int):=
 qJ Bn #[Pv s,Iv a,Iv c] w λt h=>NN s λa4=>qZ h a4 1 λu=>qJ xv #[Pv u,Iv a,Iv c] h λp r=>qO 0 r λq d b=>fD d p.n (qW p d 1 λe=>qD b e λl=>NN s λf=>qZ b f 1 λm=>qF BJ #[Pv m,Iv l] b λv i=>(q (i64.wrap (d+1)) i)) (NN s λg=>qK b g 0 λn=>qJ II #[Sv n,Iv a,Iv c] b λo j=>NN s λa26=>St (a26.add 0) (Sv o) (λk=>K (Sv t) k) j)
def Nr(v:ch)(ids:Sl):=
 qO 0 w λd b a=>fD b ids.n (qW ids b 1 λe=>qD a e λg=>NN v λf=>qZ a f 0 λh=>qQ uC #[Pv h,Iv g,Iv (-1)] a λi c=>(d (i64.wrap (b+1)) c)) (K aN4 a)
def Ns(c:ch):=
 zg w λd w2=>NN c λa3=>qL w2 (a3.add 0) 2 λn=>0<=(4:Int)/\NN c λa5=>qZ w2 a5 6 λL=>zm BK #[Pv L,Iv (n.fdiv (2^(min (4:Int).toNat 64)))] w2 λM D E F G H I J=>zg J λe B=>qU [Iv M,Iv D,Iv E,Iv F,Iv G,.bool H] e B λC=>Dr (λa=>zR a e λg h i j k l=>cond I (NN c λa26=>qL a (a26.add 0) 2 λm=>qU [Iv g,Iv h,Iv i,Iv j,Iv k,.bool l] d a λb=>zH b (a26.add 0) 2 (Iv m) λN=>zR b d λo p q r s t=>K (.tuple #[Iv (n.fdiv (2^(min (4:Int).toNat 64))),.agg #[Iv o,Iv p,Iv q,Iv r,Iv s,.bool t],.bool (decide (m≥0))]) b) (qU [Iv g,Iv h,Iv i,Iv j,Iv k,.bool l] d a λf=>zR f d λu v x y z A=>K (.tuple #[Iv (n.fdiv (2^(min (4:Int).toNat 64))),.agg #[Iv u,Iv v,Iv x,Iv y,Iv z,.bool A],.bool false]) f)) C
def Nt(c:ch)(bL U V W X Y:Int)(Z:Bool):=
 Al (.cells #[Pv c] 91) (λd w2=>qC #[Iv bL] w2 λl aa=>zY #[Iv U,Iv V,Iv W,Iv X,Iv Y,.bool Z] aa λt ab=>∃s:Addr->Bool->bf8,(Dr (λa=>qb a d λm=>NN m λj=>qZ a j 6 λg=>qD a l λh=>(zy sj #[Pv g,Iv h] a λB C D E F u=>zu u λq e=>zG e l (Iv h) λae=>qG e j 6 (Pv g) λaf=>zo e d (Pv m) λag=>qU [Iv B,Iv C,.bool D,.bool E] q e λv=>s q F v)/\(zu a λr f=>zG f l (Iv h) λah=>qG f j 6 (Pv g) λai=>zo f d (Pv m) λaj=>zy sj #[Pv g,Iv h] f λG H I J L x=>qU [Iv G,Iv H,.bool I,.bool J] r x λy=>s r L y)) ab)/\(∀ad:Nat->bE,∀p:Addr,∀k:Bool,∀i:bI,s p k i->cond k (qb i d λM=>qL i p 1 λN=>qp BL #[Pv M,Iv N] i λO P z=>K (.tuple #[Iv O,.bool P]) z) (qb i d λQ=>qp xD #[Pv Q,(.func (.func BM) #[] #[Pv (some d),Pv (some t),Pv (some l)])] i λn o b=>cond o (qb b d λR=>qD b l λS=>qy b t 5 λT=>qE BN #[Pv R,Iv S,Iv n,Iv 2,.bool T] b λA=>K (.tuple #[Iv n,.bool o]) A) (K (.tuple #[Iv n,.bool o]) b)))) w
def Nu(s:ch)(bL:Int):=
 NN s λi=>qZ w i 1 λj=>zh sk #[Pv j,Iv bL] w λk b e=>cond b (Dr (λf=>NN s λc=>qZ f c 1 λh=>zU IM #[.int .u64 k] f λg a=>qG a c 1 (Pv h) λl=>qQ uF #[Pv h,Iv bL,.int .u64 g] a λm d=>K (.bool b) d) e) (K (.bool b) e)
def Nv(b a:Addr):=
 qb w b λd=>qD w a λe=>qp Iq #[Pv d,Iv e] w λf g c=>K (.tuple #[Iv f,.bool g]) c
def Nw(c:ch)(bL:Int):=
 Al (.cells #[Pv c] 91) (λe w2=>∃N:Addr->Addr->bf8,(qb w2 e λaN=>NN aN λa9=>qZ w2 a9 6 λaa=>zy sj #[Pv aa,Iv bL] w2 λab ad ae af ag O=>zu O λy P=>Al (.cells #[.bool false] 4) (λz Q=>qU [Iv ab,Iv ad,.bool ae,.bool af] y Q λR=>St z (.bool ag) (λS=>N y z S) R) P)/\(∀aO:Nat->bE,∀j:Addr,∀d:Addr,∀U:bI,N j d U->∃n:Addr->bf8,(Dr (λb=>qb b e λr=>NN r λo=>qZ b o 5 λs=>NN s λa32=>qZ b a32 0 λk=>qL b j 1 λl=>(qX Bk #[Pv k,Iv l] b λah ai aj ak al am an ao ap aP T=>qV T λB g=>zH g j 1 (Iv l) λaQ=>qG g a32 0 (Pv k) λaR=>qG g o 5 (Pv s) λaS=>zo g e (Pv r) λaT=>qU [Iv ah,Iv ai,Iv aj,Iv ak,Iv al,Iv am,Iv an,.bool ao,.bool ap] B g λV=>n B V)/\(qV b λC h=>zH h j 1 (Iv l) λaU=>qG h a32 0 (Pv k) λaV=>qG h o 5 (Pv s) λaW=>zo h e (Pv r) λaX=>qX Bk #[Pv k,Iv l] h λaq ar au av aw ax ay az aA aY W=>qU [Iv aq,Iv ar,Iv au,Iv av,Iv aw,Iv ax,Iv ay,.bool az,.bool aA] C W λX=>n C X)) U)/\(∀aL:Nat->bE,∀A:Addr,∀f:bI,n A f->qh (λu=>qm f d λaC=>cond aC (qL f A 5 λaD=>u (decide (aD<=1)) f) (u false f)) λaB i=>cond aB (qb i e λaE=>qL i j 1 λaF=>qp BL #[Pv aE,Iv aF] i λaG aH Y=>K (.tuple #[Iv aG,.bool aH]) Y) (qb i e λaI=>qp xD #[Pv aI,(.func (.func BP) #[] #[Pv (some d),Pv (some e),Pv (some j)])] i λt m p=>qg (λv=>cond m (qb p e λaJ=>qE BN #[Pv aJ,Iv bL,Iv t,Iv 1,.bool true] p λZ=>v Z) (v p)) λq=>qh (λx=>cond m (qm q d λH=>x H q) (x false q)) λaK D=>cond aK (Dr (λa=>qb a e λI=>NN I λE=>qZ a E 5 λJ=>NN J λF=>qZ a F 0 λL=>qL a j 1 λM=>qQ uC #[Pv L,Iv M,Iv (-1)] a λaM G=>K (.tuple #[Iv t,.bool m]) G) D) (K (.tuple #[Iv t,.bool m]) D))))) w
variable{K w}
def YV(cC cV bW)(h:MU K w cC cV bW):=bM {} #[Iv cC,Iv cV,Sv bW] K w func17 h
def YW(v)(h:MV K w v):=bM {} #[Pv v] K w func18 h
def YX(v a b c e f)(h:MW K w v a b c e f):=bM {(z8 [14,29,33] [(1,[[1,2,0,3,4]],[0]),(4,[[1,2,4,5,6,0,3,7,8,9]],[0,7])]:dQ)with dyn:=λd=>[18,42].contains d} #[Pv v,.agg #[Iv a,Iv b,Iv c,Iv e,Iv f]] K w func21 h
def YY(v)(h:MX K w v):=bM (z8 [11,13,20,32] [] [(3,[(3,.slice),(12,jZ)])] [(8,[])]) #[Pv v] K w func23 h
def YZ(v pid)(h:MY K w v pid):=bM (z8 [6,13,14] [] [] [(3,[])]) #[Pv v,Iv pid] K w func24 h
def Y0(s)(h:MZ K w s):=bM {} #[Pv s] K w func27 h
def Y1(cC cV bW l)(h:M0 K w cC cV bW l):=bM (z8 [18,20,29] [] [(4,[(10,.slice),(19,jZ)])]) #[Iv cC,Iv cV,Sv bW,Sv l] K w func29 h
def Y2(h:YT K w):=bM {} #[] K w func36 h
def Y3(h:YU K w):=bM {} #[] K w func37 h
def Y4(s)(h:M1 K w s):=bM {} #[Pv s] K w func38 h
def Y5(s a b)(h:M3 K w s a b):=bM (z8 [19,21,35] [] [(3,[(7,.slice),(20,jZ)])]) #[Pv s,Iv a,Iv b] K w func40 h
def Y6(v a b c d e)(h:M4 K w v a b c d e):=bM (z8 [19] [(1,[jQ 12],[6])]) #[Pv v,.agg #[Iv a,Iv b,Iv c,Iv d,Iv e]] K w func51 h
def Y7(v a b c d e)(h:M5 K w v a b c d e):=bM (z8 [10,25,27,34,41,44] [(1,[[0,1,2,3,4,5,6,7,9,10,8,11,12,13]],[8,11]),(8,[jQ 9],[6,8])] [(3,[(26,jZ)])] [(2,[(5,.bool)])]) #[Pv v,.agg #[Iv a,Iv b,Iv c,Iv d,Iv e]] K w func52 h
def Y8(v a b c d e)(h:M6 K w v a b c d e):=bM (z8 [] [(1,[jQ 13],[10,12])]) #[Pv v,.agg #[Iv a,Iv b,Iv c,Iv d,Iv e]] K w func53 h
def Y9(v a b c d e)(h:M7 K w v a b c d e):=bM (z8 [21,22] [(1,[[0,1,2,3,5,6,4,7,8,9]],[4,7]),(5,[jQ 6],[3,4,5])]) #[Pv v,.agg #[Iv a,Iv b,Iv c,Iv d,Iv e]] K w func54 h
def Za(v a b c d e)(h:M8 K w v a b c d e):=bM (z8 [] [(1,[jQ 9],[6,8])]) #[Pv v,.agg #[Iv a,Iv b,Iv c,Iv d,Iv e]] K w func55 h
def Zb(v a b c d e)(h:M9 K w v a b c d e):=bM (z8 [] [(1,[jQ 11],[8,10])]) #[Pv v,.agg #[Iv a,Iv b,Iv c,Iv d,Iv e]] K w func56 h
def Zc(c)(h:Na K w c):=bM (z8 [] [(0,[[0,1,2,3,4,5,6,8,9,10,11,12,7,13,14]],[7,13]),(2,[jQ 20],[19])]) #[Pv c] K w func57 h
def Zd(c)(h:Nb K w c):=bM (z8 [] [(0,[jQ 10],[9])]) #[Pv c] K w func58 h
def Ze(c)(h:Nc K w c):=bM (z8 [24] [(1,[jQ 27],[22,26])]) #[Pv c] K w func59 h
def Zf(c)(h:Nd K w c):=bM (z8 [10,25,46,72] [(1,[jQ 43],[19,40]),(3,[jQ 32],[27,31])] [] [(3,[])]) #[Pv c] K w func60 h
def Zg(c)(h:Nf K w c):=bM (z8 [24,34] [(1,[jQ 22],[20])]) #[Pv c] K w func61 h
def Zh(c)(h:Ng K w c):=bM (z8 [36,61,73] [(7,[jQ 20],[14])] [] [(5,[])]) #[Pv c] K w func62 h
def Zi(c)(h:Nh K w c):=bM {(z8 [20,27,53,57,78,84] [(14,[jQ 21],[20]),(15,[jQ 6],[5])] [] [(3,[(14,.bool)]),(8,[]),(12,[(5,.raw)])]:dQ)with dyn:=λd=>[61].contains d} #[Pv c] K w func63 h
def Zj(c)(h:Ni K w c):=bM (z8 [12,13,25,27,39] [(8,[jQ 25],[21,24])] [(4,[(26,jZ)])]) #[Pv c] K w func64 h
def Zk(t)(h:Nj K w t):=bM (z8 [6]) #[Pv t] K w func65 h
def sN:dQ:={quiet:=λd=>[14,17].contains d,brk:=some 0}
def Dj:Nat->Bool:=λd=>[].contains d
def Zl(t:ch)(a b:Int)(K:bf9)(w:bI):m3 P fG gM cx sN Dj f68 #[(.pointer t),(.int .i64 a),(.int .i64 b)] K w=Di K w t a b:=by kernel_rfl
def Zm:m4 P sN f68 3=true:=by kernel_rfl
def Zn(t:ch)(a b:Int){K:bf9}{w:bI}(h:Di K w t a b):Calls P xv #[(Pv t),(Iv a),(Iv b)] w (cz K):=n0 mixed func68 Zm (by rw[Zl];exact h)
def Nx(m n g:Addr)(b:Int)(c:Nat)(w:bI)(R:Ending->bf8):Prop:=
 lk c (λa=>qD a n λj=>cond (decide (b≥j)) (e3 c (some (.exit 0)) R a) (qD a m λk=>cond (decide (b≥k)) (qc a g λl=>qC #[Iv b] a λf h=>∃e:Sl,∃d:bI,Sem.run P (Builtin.append_ #[22,22] 22 #[Sv l,.slice (some f) 1 1]) h=.ok (Sv e) d/\St g (Sv e) (λi=>e3 c none R i) d) (e3 c none R a))) w
def Zo(t:ch)(a g:Int)(d e f:Addr)(b:Int)(c:Nat)(w:bI)(R:Ending->bf8):mo P fG gM cx sN Dj 23 c (j9 f68.body) (ka f68.body) (ln [(11,.int .i64 b)] (((((((ji [(.pointer t),(.int .i64 a),(.int .i64 g)] 0 .nil).put (some 4) (.pointer (some d))).put (some 5) (.pointer (some e))).put (some 6) (aN8)).put (some 7) (.pointer (some f))).put (some 9) (.pointer t)).put (some 10) (.func (.func n3) #[(.pointer t)] #[]))) w R=Nx d e f b c w R:=by kernel_rfl
def Zp:gL P 23 sN (j9 f68.body)=true/\gL P 23 sN (ka f68.body)=true:=⟨by kernel_rfl,by kernel_rfl⟩
def Zq(s bL)(h:Nk K w s bL):=bM {} #[Pv s,Iv bL] K w func69 h
def Zr(v group s)(h:Nl K w v group s):=bM (z8 [23,24]) #[Pv v,Iv group,Pv s] K w func82 h
def Zs(h:Nm K w):=bM {} #[] K w func83 h
def Zt(v pid)(h:Nn K w v pid):=bM {} #[Pv v,Iv pid] K w func86 h
def Zu(c)(h:No K w c):=bM {} #[Pv c] K w func87 h
def Zv(s a b c d e f)(h:Np K w s a b c d e f):=bM (z8 [17] [(1,[jQ 11],[5])]) #[Pv s,.agg #[Iv a,Iv b,Iv c,Iv d,Iv e,.bool f]] K w func88 h
def Zw(s a b)(h:Nq K w s a b):=bM (z8 [21,23,32] [] [(3,[(22,jZ)])]) #[Pv s,Iv a,Iv b] K w func91 h
def Zx(v ids)(h:Nr K w v ids):=bM (z8 [7,9,18] [] [(1,[(8,jZ)])]) #[Pv v,Sv ids] K w func92 h
def Zy(c)(h:Ns K w c):=bM (z8 [13,32] [(3,[jQ 14],[12])]) #[Pv c] K w func93 h
def Zz(c bL a b d e f g)(h:Nt K w c bL a b d e f g):=bM (z8 [] [(1,[jQ 12,[0,1,2,3,4,9,5,6,7,8,10,11]],[5,9,10])] [] [(2,[(8,.addr),(9,.bool)])]) #[Pv c,Iv bL,.agg #[Iv a,Iv b,Iv d,Iv e,Iv f,.bool g]] K w func94 h
def ZA(s bL)(h:Nu K w s bL):=bM (z8 [] [(3,[jQ 8],[6,7])]) #[Pv s,Iv bL] K w func96 h
def ZB(b a)(h:Nv K w b a):=bM {} #[Pv (some b),Pv (some a)] K w func97 h
def ZC(c bL)(h:Nw K w c bL):=bM (z8 [38] [(2,[jQ 16,[0,1,2,3,4,5,6,7,8,13,9,10,11,12,14,15]],[9,13,14]),(9,[jQ 10],[9])] [] [(2,[(6,.addr),(7,.addr)]),(3,[(8,.addr)]),(4,[(39,.bool)]),(8,[]),(9,[(60,.bool)])]) #[Pv c,Iv bL] K w func98 h
end Go.Mp
namespace Go.Mp
open Go Go.Vc Go.Proofs
variable{K:bf9}{w:bI}
variable(K w)
def Ny(c b a:Addr):=
 qb w c λg=>qD w b λh=>zR w a λi j k l m n=>qp BC #[Pv g,Iv h,.agg #[Iv i,Iv j,Iv k,Iv l,Iv m,.bool n]] w λd e f=>K (.tuple #[Iv d,.bool e]) f
def Nz(s:ch):=
 Dr (λa=>NN s λh=>qK a h 0 λi=>NN s λa4=>qZ a a4 1 λg=>qJ IS #[Sv i] a λj e=>qG e a4 1 (Pv g) λk=>qR BR #[Pv g] e λf c=>Al (.cells #[Sv j,Pv f] 112) (λb d=>K (Pv (some b)) d) c) w
def Dk(t:ch)(yield:bE):=
 NN t λa=>qF xF #[Pv (some (a.add 0)),Iv 0,Iv 0,yield] w λb w2=>K aN4 w2
def NA(t:ch)(bL:Int):=
 qF BV #[Iv bL] w λp j=>dN p (K (.tuple #[.int .u64 0,.bool false]) j) (NN t λa4=>zb (some (a4.add 0)) 0 j λo n9 c m=>eg c 3 (Dr (λk=>NN n9 λh=>qQ sr #[Iv bL,Iv c] k λn a=>cK (some (h.add 0)) 16 n 1 λi=>qb a i λe=>cond e.isNone (K (.tuple #[.int .u64 0,.bool false]) a) ((o e (i64.wrap (c+1)) a))) m) (qQ sr #[Iv bL,Iv 3] m λd l=>Dr (λb=>NN n9 λa22=>cK (some (a22.add 16)) 16 d 1 λa23=>∃f:Int,b.cell? a23=some (.int .u64 f)/\NN n9 λa25=>∃g:Int,b.cell? (a25.add 32)=some (.int .u16 g)/\0<=(u64.wrap d)/\K (.tuple #[.int .u64 f,.bool ((dm .u16 (g.fdiv (2^(min (u64.wrap d).toNat 16))) 1) !=0)]) b) l))
def NB(x:Int):=
 zu w λa w2=>qJ BX #[] w2 λP O=>zF BW #[Sv P,.int .u64 x] O λM N B=>cond (N !=0) (qU [Iv 0,Iv 0,.bool false,.bool false] a B λh=>zn h a λn o p q=>K (.tuple #[.agg #[Iv n,Iv o,.bool p,.bool q],Iv N]) h) (Dr (λc=>qW M 0 1 λf=>qD c f λl=>qW M 1 1 λg=>qD c g λm=>zu c λb d=>zG d g (Iv m) λQ=>zG d f (Iv l) λR=>qU [Iv l,Iv m,.bool ((dm .u64 x 67108864) !=0),.bool ((dm .u64 x 134217728) !=0)] b d λi=>zn i b λC D E F=>qF BY #[.agg #[Iv C,Iv D,.bool E,.bool F]] i λG e=>dN G (qU [Iv 0,Iv 0,.bool false,.bool false] a e λj=>zn j a λr s t u=>K (.tuple #[.agg #[Iv r,Iv s,.bool t,.bool u],Iv 1]) j) (zn e b λH I J L=>qU [Iv H,Iv I,.bool J,.bool L] a e λk=>zn k a λv y z A=>K (.tuple #[.agg #[Iv v,Iv y,.bool z,.bool A],Iv 0]) k)) B)
def ZD:=
 Al (.cells #[Pv none,Pv none,Pv none,Pv none,Pv none,Pv none,Pv none,Pv none,Pv none,Pv none,Pv none,Pv none,Pv none,Pv none,Pv none,Pv none,.int .u64 0,.int .u64 0,.int .u64 0,.int .u64 0,.int .u64 0,.int .u64 0,.int .u64 0,.int .u64 0,.int .u64 0,.int .u64 0,.int .u64 0,.int .u64 0,.int .u64 0,.int .u64 0,.int .u64 0,.int .u64 0,.int .u16 0] 227) (λa w2=>K (Pv (some a)) w2) w
def ZE(n:Int):=
 cond (decide ((0:Int)<=n)) (K (.bool (decide (n<=65536))) w) (K aN2 w)
def NC(l:Sl)(I J L M N:Int)(O:Bool):=
 zY #[Iv I,Iv J,Iv L,Iv M,Iv N,.bool O] w λd w2=>qg (λQ=>qF xI #[Sv l] w2 λS o=>dN S (K (.tuple #[aN8,Iv 1]) o) (zR o d λT t u v x y=>qF Cc #[.agg #[Iv T,Iv t,Iv u,Iv v,Iv x,.bool y]] o λz c=>dN z (K (.tuple #[aN8,Iv 1]) c) (cond (decide (((l.n:Nat):Int)≥64)) (K (.tuple #[aN8,Iv 1]) c) (Q c)))) λR=>qQ Cd #[Sv l,(.func (.func I3) #[] #[Pv (some d)])] R λk g=>q9 (λe=>eg k 0 (e ((l.n:Nat):Int) g) (e k g)) λa q=>qg (λf=>Dr (λb=>fD a l.n (qW l a 6 λa29=>qL b a29 0 λA=>qL b d 1 λB=>eg A B (K (.tuple #[aN8,Iv 4]) b) (f b)) (f b)) q) λr=>Dr (λh=>((0:Int)<=a/\a<=((l.c:Nat):Int))/\((0:Int)<=a/\a<=((a.toNat:Nat):Int))/\zR h d λC D E F G H=>((0:Int)<=a/\a<=((l.n:Nat):Int))/\zY #[Iv C,Iv D,Iv E,Iv F,Iv G,.bool H] h λp s=>∃m:Sl,∃i:bI,Sem.run P (Builtin.append_ #[109,109] 109 #[.slice (gi l.p 0 a.toNat 6) (a.toNat-0) (a.toNat-0),.slice (some p) 1 1]) s=.ok (Sv m) i/\∃n:Sl,∃j:bI,Sem.run P (Builtin.append_ #[109,109] 109 #[Sv m,.slice (gi l.p a.toNat l.c 6) (l.n-a.toNat) (l.c-a.toNat)]) i=.ok (Sv n) j/\K (.tuple #[Sv n,Iv 0]) j) r
def ND(t:ch)(bL:Int):=
 zh sk #[Pv t,Iv bL] w λd c a=>dN c (K aN2 a) (NN t λa5=>qE Ce #[Pv (some (a5.add 0)),Iv bL,Iv 0] a λb=>K aN3 b)
def NF(l:Sl)(c h:Int):=
 qF xI #[Sv l] w λX k=>dN X (K (aN8) k) (Al (.cells #[aN8] 109) (λf W=>qO 0 W λi d g=>fD d l.n (qW l d 6 λj=>zR g j λp q r s t u=>zg g λa m=>qU [Iv p,Iv q,Iv r,Iv s,Iv t,.bool u] a m λb=>cond (decide (c≥h)) (zR b a λv x y z A B=>zZ b a λC D=>qE xJ #[.agg #[Iv v,Iv x,Iv y,Iv z,Iv A,.bool B],Iv C,Iv D,Pv (some f)] b λn=>(i (i64.wrap (d+1)) n)) (zR b a λE F G H I J=>zZ b a λL M=>qE xJ #[.agg #[Iv E,Iv F,Iv G,Iv H,Iv I,.bool J],Iv L,Iv (min1 M c),Pv (some f)] b λe=>zR e a λN O P Q R S=>zZ e a λT U=>qE xJ #[.agg #[Iv N,Iv O,Iv P,Iv Q,Iv R,.bool S],Iv (eE T h),Iv U,Pv (some f)] e λo=>(i (i64.wrap (d+1)) o))) (qc g f λV=>K (Sv V) g)) k)
def NG(s:ch)(bL:Int):=
 zg w λb w2=>NN s λa3=>qK w2 a3 0 λn=>zm I5 #[Sv n,Iv bL] w2 λo p q i j k l m=>qU [Iv o,Iv p,Iv q,Iv i,Iv j,.bool k] b m λa=>zR a b λc d e f g h=>K (.tuple #[.agg #[Iv c,Iv d,Iv e,Iv f,Iv g,.bool h],.bool l]) a
def NH(c:ch)(id:Int):=
 Al (.cells #[Pv c] 91) (λa w2=>qC #[Iv id] w2 λd b=>qb b a λf=>qp xD #[Pv f,(.func (.func Cf) #[] #[Pv (some a),Pv (some d)])] b λg h e=>K (.tuple #[Iv g,.bool h]) e) w
def NI(group:Int)(d g c:Addr):=
 Dr (λb=>qb b d λn=>NN n λa3=>qZ b a3 5 λr=>NN r λa5=>qZ b a5 0 λs=>zR b g λt u v j k l=>qD b c λm=>Calls P IK #[.agg #[Iv t,Iv u,Iv v,Iv j,Iv k,.bool l],Iv m] b λh a=>∃e:Int,∃f:Int,h=.returned (.agg #[Iv e,Iv f])/\qG a a5 0 (Pv s) λx=>qG a a3 5 (Pv r) λy=>zo a d (Pv n) λz=>zX IJ #[Pv s,.agg #[Iv e,Iv f],Iv group] a λo p q i=>K (.tuple #[Iv o,Iv p,Iv q]) i) w
def NJ(j k l m n:Int)(o:Bool)(bL:Int):=
 zY #[Iv j,Iv k,Iv l,Iv m,Iv n,.bool o] w λb w2=>Al (.cells #[Iv 0,Iv 0] 54) (λc a=>qL a b 2 λp=>cond (p==2) (qL a b 3 λq=>qL a b 4 λr=>qL a b 0 λs=>qU [Iv q,Iv (i64.wrap ((i64.wrap (r+bL))-s))] c a λi=>zZ i c λe f=>K (.agg #[Iv e,Iv f]) i) (qU [Iv (-1),Iv bL] c a λd=>zZ d c λg h=>K (.agg #[Iv g,Iv h]) d)) w2
def NK(c:ch)(bL id kind:Int)(write:Bool):=
 NN c λd=>qZ w d 5 λf=>NN f λa3=>qZ w a3 0 λg=>qQ uC #[Pv g,Iv id,Iv 1] w λj b=>NN c λe=>qZ b e 6 λh=>qQ I6 #[Pv h,Iv bL,.agg #[Iv kind,Iv id,.bool write,.bool false]] b λi a=>K aN4 a
def NL(t:ch)(bL x:Int):=
 qF BV #[Iv bL] w λD q=>dN D (K (Iv 1) q) (NN t λa4=>zb (some (a4.add 0)) 0 q λC n9 d z=>eg d 3 (qQ sr #[Iv bL,Iv d] z λa c=>qg (λe=>NN n9 λk=>cK (some (k.add 0)) 16 a 1 λl=>qb c l λA=>cond A.isNone (Al (.cells #[Pv none,Pv none,Pv none,Pv none,Pv none,Pv none,Pv none,Pv none,Pv none,Pv none,Pv none,Pv none,Pv none,Pv none,Pv none,Pv none,.int .u64 0,.int .u64 0,.int .u64 0,.int .u64 0,.int .u64 0,.int .u64 0,.int .u64 0,.int .u64 0,.int .u64 0,.int .u64 0,.int .u64 0,.int .u64 0,.int .u64 0,.int .u64 0,.int .u64 0,.int .u64 0,.int .u16 0] 225) (λp r=>NN n9 λa22=>cK (some (a22.add 0)) 16 a 1 λa23=>St a23 (Pv (some p)) (λs=>e s) r) c) (e c)) λf=>NN n9 λa25=>∃i:Int,f.cell? (a25.add 32)=some (.int .u16 i)/\0<=(u64.wrap a)/\NN n9 λa27=>St (a27.add 32) (.int .u16 (iY .u16 i (IntKind.u16.wrap (1*2^(min (u64.wrap a).toNat 16))))) (λg=>NN n9 λa29=>cK (some (a29.add 0)) 16 a 1 λm=>qb g m λB=>(C B (i64.wrap (d+1)) g)) f) (qQ sr #[Iv bL,Iv 3] z λb u=>Dr (λh=>NN n9 λa36=>∃j:Int,h.cell? (a36.add 32)=some (.int .u16 j)/\0<=(u64.wrap b)/\NN n9 λn=>cK (some (n.add 16)) 16 b 1 λo=>St o (.int .u64 x) (λv=>((.int .u64 (u64.wrap b)):bE)=(.int .u64 (u64.wrap b))/\NN n9 λa41=>St (a41.add 32) (.int .u16 (iY .u16 j (IntKind.u16.wrap (1*2^(min (u64.wrap b).toNat 16))))) (λy=>K (Iv 0) y) v) h) u))
def NM(x:Int):=
 qF I7 #[.int .u64 x] w λb a=>cond b (K (.int .u64 (iY .u64 x 134217728)) a) (K (.int .u64 x) a)
def NO(group:Int)(e a b:Addr):=
 qm w e λr=>cond r (Dr (λw2=>qb w2 a λs=>NN s λa4=>qZ w2 a4 5 λt=>NN t λp=>qZ w2 p 0 λu=>qL w2 b 1 λv=>zX IN #[Pv u,Iv v,Iv group] w2 λg h i q=>K (.tuple #[Iv g,Iv h,Iv i]) q) w) (qb w a λj=>NN j λc=>qZ w c 5 λk=>NN k λd=>qZ w d 0 λl=>zX IP #[Pv l,Iv group] w λm n o f=>K (.tuple #[Iv m,Iv n,Iv o]) f)
def Dl(t:ch):=
 Al (.cells #[Pv t] 110) (λg w2=>qR xB #[] w2 λj k=>Al (.cells #[Pv none] 110) (λe l=>St e (Pv j) (λh=>qb h g λf=>iB P 22 (.func (.func n3) #[Pv f] #[]) #[10] (j9 f154.body) (ka f154.body) .ret ((((((((ji [Pv t] 0 .nil).put (some 1) (Pv (some g))).put (some 2) (Pv none)).put (some 7) (Pv j)).put (some 3) (Pv (some e))).put (some 8) (Pv f)).put (some 9) (.func (.func n3) #[Pv f] #[]))) h (λb a=>qb a e λi=>a.heap[b]?=some (.deferred (some []))/\K (Pv i) (a.putObj b (.deferred none))) (λc d=>d.heap[c]?=some (.deferred (some []))/\K (Pv none) (d.putObj c (.deferred none)))) l) k) w
def x5(n:ch)(level b:Int)(yield:bE):=
 qO 0 w λg a c=>eg a 16 (0<=(4:Int)/\NN n λl=>∃k:Int,c.cell? (l.add 32)=some (.int .u16 k)/\0<=(u64.wrap a)/\cond ((dm .u16 (k.fdiv (2^(min (u64.wrap a).toNat 16))) 1)==0) ((([]:bA Nat)= []/\(g (i64.wrap (a+1)) c))) (eg level 3 (NN n λm=>cK (some (m.add 0)) 16 a 1 λa9=>qb c a9 λi=>qF xF #[Pv i,Iv (i64.wrap (level+1)),Iv (iY .i64 (i64.wrap (b*2^(min (4:Int).toNat 64))) a),yield] c λj d=>dN j (K aN2 d) ((([]:bA Nat)= []/\(g (i64.wrap (a+1)) d)))) (w7 P none yield #[Iv (iY .i64 (i64.wrap (b*2^(min (4:Int).toNat 64))) a)] c λh e=>∃f,h=.returned (.bool f)/\dN f (K aN2 e) ((([]:bA Nat)= []/\(g (i64.wrap (a+1)) e)))))) (K aN3 c)
def ZF(bL:Int):=
 cond (decide ((0:Int)<=bL)) (K (.bool (decide (bL<65536))) w) (K aN2 w)
def NP(bL level:Int):=
 0<=(u64.wrap (i64.wrap (4*(i64.wrap (3-level)))))/\K (Iv (dm .i64 (bL.fdiv (2^(min (u64.wrap (i64.wrap (4*(i64.wrap (3-level))))).toNat 64))) 15)) w
def NQ:=
 qC #[Iv 2,Iv 24,Iv 1,Iv 1] w λa w2=>K (.slice (some a) 4 4) w2
def NR(b c:Int)(d e:Bool):=
 Al (.cells #[Iv b,Iv c,.bool d,.bool e] 125) (λa w2=>qL w2 a 0 λj=>cond (j==0) (zn w2 a λk l m n=>∃f:Bool,kl P .eql 125 (.agg #[Iv k,Iv l,.bool m,.bool n]) (.agg #[Iv 0,Iv 0,.bool false,.bool false]) f/\cond f (K aN3 w2) (qL w2 a 0 λo=>cond (o==1) (K aN3 w2) (qL w2 a 0 λg=>K (.bool (g==2)) w2))) (qL w2 a 0 λh=>cond (h==1) (K aN3 w2) (qL w2 a 0 λi=>K (.bool (i==2)) w2))) w
def NS(l:Sl):=
 qI 0 0 w λv f e d=>fD e l.n (qW l e 6 λx=>zR d x λy z h i j k=>zg d λb g=>qU [Iv y,Iv z,Iv h,Iv i,Iv j,.bool k] b g λc=>zR c b λm n o p q r=>qF Cc #[.agg #[Iv m,Iv n,Iv o,Iv p,Iv q,.bool r]] c λs a=>dN s (K aN2 a) (qL a b 0 λt=>eg t f (K aN2 a) (qL a b 1 λu=>(v u (i64.wrap (e+1)) a)))) (K aN3 d)
def NT(l m n o p:Int)(q:Bool):=
 zY #[Iv l,Iv m,Iv n,Iv o,Iv p,.bool q] w λb w2=>qg (λr=>qL w2 b 0 λs=>eg s 0 (K aN2 w2) (qL w2 b 1 λt=>qL w2 b 0 λu=>cond (decide (t<=u)) (K aN2 w2) (qL w2 b 1 λv=>cond (decide (v>65536)) (K aN2 w2) (r w2)))) λa=>qL a b 2 λc=>cond (c==1) (qL a b 3 λd=>cond (d==0) (qL a b 4 λe=>K (.bool (e==0)) a) (K aN2 a)) (cond (c==2) (qL a b 3 λf=>cond (decide ((0:Int)<=f)) (qL a b 3 λg=>cond (decide (g<=1048576)) (qL a b 4 λh=>cond (decide ((0:Int)<=h)) (qL a b 4 λi=>qL a b 1 λj=>qL a b 0 λk=>K (.bool (decide (i<=(i64.wrap (2097152-(i64.wrap (j-k))))))) a) (K aN2 a)) (K aN2 a)) (K aN2 a)) (K aN2 a))
def NU(b c d e f:Int)(g:Bool)(a:Addr):=
 zY #[Iv b,Iv c,Iv d,Iv e,Iv f,.bool g] w λh w2=>qL w2 h 1 λi=>qL w2 a 0 λj=>K (.bool (decide (i>j))) w2
def Dm(n:ch)(bL level:Int):=
 qQ sr #[Iv bL,Iv level] w λb f=>qg (λg=>eg level 3 (NN n λr=>cK (some (r.add 0)) 16 b 1 λs=>qb f s λu=>qE Ce #[Pv u,Iv bL,Iv (i64.wrap (level+1))] f λa=>NN n λh=>cK (some (h.add 0)) 16 b 1 λi=>qb a i λq=>NN q λj=>∃d:Int,a.cell? (j.add 32)=some (.int .u16 d)/\cond (d !=0) (K aN4 a) (NN n λk=>cK (some (k.add 0)) 16 b 1 λl=>St l (Pv none) (λo=>g o) a)) (g f)) λt=>NN n λa20=>cK (some (a20.add 16)) 16 b 1 λm=>St m (.int .u64 0) (λc=>NN n λa23=>∃e:Int,c.cell? (a23.add 32)=some (.int .u16 e)/\0<=(u64.wrap b)/\NN n λa25=>St (a25.add 32) (.int .u16 (wq .u16 e (IntKind.u16.wrap (1*2^(min (u64.wrap b).toNat 16))))) (λp=>K aN4 p) c) t
def NV(u v x y z:Int)(A:Bool)(b c:Int)(a:Addr):=
 zY #[Iv u,Iv v,Iv x,Iv y,Iv z,.bool A] w λB w2=>eg b c (Dr (λj=>qc j a λk=>zR j B λC D E F G n=>zf I4 #[.agg #[Iv C,Iv D,Iv E,Iv F,Iv G,.bool n],Iv b,Iv c] j λo p q r s t d=>∃g:Sl,d.cell? a=some (Sv g)/\((Sv g):bE)=(Sv k)/\zY #[Iv o,Iv p,Iv q,Iv r,Iv s,.bool t] d λl e=>∃h:Sl,e.cell? a=some (Sv h)/\((Sv h):bE)=(Sv k)/\∃i:Sl,∃f:bI,Sem.run P (Builtin.append_ #[109,109] 109 #[Sv k,.slice (some l) 1 1]) e=.ok (Sv i) f/\St a (Sv i) (λm=>K aN4 m) f) w2) (K aN4 w2)
def NW(y z A B C:Int)(D:Bool)(b n:Int):=
 zY #[Iv y,Iv z,Iv A,Iv B,Iv C,.bool D] w λa w2=>zg w2 λg c=>qg (λf=>qL c a 2 λF=>cond (F==2) (qL c a 4 λG=>qL c a 0 λq=>St (a.add 4) (Iv (i64.wrap (G+(i64.wrap (b-q))))) (λo=>f o) c) (f c)) λE=>St (a.add 0) (Iv b) (λp=>St (a.add 1) (Iv n) (λd=>zR d a λr s t u v x=>qU [Iv r,Iv s,Iv t,Iv u,Iv v,.bool x] g d λe=>zR e g λh i j k l m=>K (.agg #[Iv h,Iv i,Iv j,Iv k,Iv l,.bool m]) e) p) E
def NX(l:Sl)(bL:Int):=
 qC #[Iv bL] w λH w2=>zg w2 λa J=>qQ Cd #[Sv l,(.func (.func Jk) #[] #[Pv (some H)])] J λG x=>eg G 0 (qU [Iv 0,Iv 0,Iv 0,Iv 0,Iv 0,.bool false] a x λy=>zR y a λI e f g h i=>K (.tuple #[.agg #[Iv I,Iv e,Iv f,Iv g,Iv h,.bool i],.bool false]) y) (qF xI #[Sv l] x λz b=>dN z (qU [Iv 0,Iv 0,Iv 0,Iv 0,Iv 0,.bool false] a b λc=>zR c a λj k m n o p=>K (.tuple #[.agg #[Iv j,Iv k,Iv m,Iv n,Iv o,.bool p],.bool false]) c) (qW l G 6 λa25=>zR b a25 λA B C D E F=>qU [Iv A,Iv B,Iv C,Iv D,Iv E,.bool F] a b λd=>zR d a λq r s t u v=>K (.tuple #[.agg #[Iv q,Iv r,Iv s,Iv t,Iv u,.bool v],.bool true]) d))
def NY(group:Int)(c a:Addr):=
 Dr (λb=>qb b c λh=>NN h λa3=>qZ b a3 5 λi=>NN i λa5=>qZ b a5 0 λj=>qD b a λk=>qj Cg #[Pv j,Iv k,Iv group] b λe f d=>qD d a λg=>K (.tuple #[Iv g,Iv e,Iv f]) d) w
def NZ(c:ch)(target:Int):=
 Dr (λe=>NN c λI=>qZ e I 5 λJ=>NN J λa4=>qZ e a4 0 λL=>NN c λs=>qZ e s 5 λH=>NN c λn=>qZ e n 5 λo=>NN o λf=>qZ e f 0 λi=>qR uA #[Pv L] e λz d=>qG d f 0 (Pv i) λM=>qG d n 5 (Pv o) λN=>qG d s 5 (Pv H) λO=>qJ si #[Pv H] d λA g=>qG g f 0 (Pv i) λQ=>qG g n 5 (Pv o) λR=>qJ Jn #[Pv i] g λB t=>qJ Jm #[Pv z,Sv A,Iv target,Sv B] t λb u=>qO 0 u λp j a=>fD j b.n (qW b j 1 λq=>qD a q λC=>NN c λa36=>qZ a a36 5 λD=>qE Bx #[Pv D,Iv C] a λv=>(p (i64.wrap (j+1)) v)) (NN c λa40=>qK a (a40.add 7) 2 λE=>∃m:Sl,∃k:bI,Sem.run P (Builtin.append_ #[22,22] 22 #[Sv E,Sv b]) a=.ok (Sv m) k/\NN c λa44=>St ((a44.add 7).add 2) (Sv m) (λh=>cond (((b.n:Nat):Int)==0) (NN c λa46=>St ((a46.add 7).add 0) (Iv 12) (λx=>K aN2 x) h) (NN c λr=>qL h (r.add 0) 1 λF=>qF py #[Sv b,Iv F] h λG l=>cond G (NN c λa53=>St ((a53.add 7).add 0) (Iv 13) (λy=>K aN2 y) l) (K aN3 l))) k)) w
def N0(s:ch)(bL e f:Int)(g h:Bool):=
 Al (.cells #[Iv e,Iv f,.bool g,.bool h] 125) (λi w2=>zm BK #[Pv s,Iv bL] w2 λA B C D E m n z=>zg z λj k=>qU [Iv A,Iv B,Iv C,Iv D,Iv E,.bool m] j k λb=>dN n (K (Iv 14) b) (zn b i λo p q r=>zB Jo #[.agg #[Iv o,Iv p,.bool q,.bool r]] b λt u a=>qg (λd=>cond (u !=0) (K (Iv 1) a) (qL a i 0 λv=>cond (v==0) (K (Iv 1) a) (d a))) λc=>NN s λa27=>qZ c a27 1 λx=>qQ uF #[Pv x,Iv bL,.int .u64 t] c λy l=>K (Iv y) l)) w
def N1(x:Int):=
 zt BE #[.int .u64 x] w λf g h i j d=>zu d λb e=>qU [Iv f,Iv g,.bool h,.bool i] b e λa=>cond (j==0) (qL a b 0 λc=>K (.bool (c !=0)) a) (K aN2 a)
def N2(c d e f g:Int)(h:Bool)(a:Addr):=
 zY #[Iv c,Iv d,Iv e,Iv f,Iv g,.bool h] w λb w2=>qL w2 b 0 λi=>qD w2 a λj=>cond (decide (i<=j)) (qD w2 a λk=>qL w2 b 1 λl=>K (.bool (decide (k<l))) w2) (K aN2 w2)
def N3(t:ch)(l:Sl)(target:Int)(whole:Sl):=
 qJ so #[Pv t,Iv target] w λL I=>qQ Jv #[Sv l,Sv L] I λo n=>eg o 0 (K (aN8) n) (qW l o 3 λH=>qL n H 0 λM=>qJ q7 #[Pv t,Iv M] n λy J=>qQ Jw #[Sv y,Iv target,Sv whole] J λk h=>eg k 0 (qC #[Iv o] h λp r=>K (.slice (some p) 1 1) r) (qJ so #[Pv t,Iv k] h λz s=>qf ⟨none,0,0⟩ 0 s λf a b e=>fD b l.n (qW l b 3 λa26=>qa e a26 λA B C=>zz e λd u=>qU [Iv A,Iv B,.bool C] d u λc=>qh (λg=>qy c d 2 λE=>cond E (qL c d 0 λF=>qF py #[Sv z,Iv F] c λG v=>g G v) (g false c)) λD i=>cond D (qC #[Iv b] i λq x=>∃m:Sl,∃j:bI,Sem.run P (Builtin.append_ #[22,22] 22 #[Sv a,.slice (some q) 1 1]) x=.ok (Sv m) j/\(f m (i64.wrap (b+1)) j)) ((f a (i64.wrap (b+1)) i))) (K (Sv a) e)))
def N4(j k:Int)(l m:Bool):=
 Al (.cells #[Iv j,Iv k,.bool l,.bool m] 125) (λa w2=>zn w2 a λx y z A=>qF BY #[.agg #[Iv x,Iv y,.bool z,.bool A]] w2 λB q=>dN B (K (.tuple #[.int .u64 0,Iv 1]) q) (Dr (λh=>zn h a λd e i g=>qJ BX #[] h λr b=>za b a 3 (.bool g) λC=>za b a 2 (.bool i) λD=>zH b a 1 (Iv e) λE=>zH b a 0 (Iv d) λF=>qQ CI #[.bool i] b λs c=>za c a 3 (.bool g) λG=>zH c a 1 (Iv e) λH=>zH c a 0 (Iv d) λI=>qQ CI #[.bool g] c λt f=>zH f a 1 (Iv e) λJ=>zH f a 0 (Iv d) λL=>qC #[Iv d,Iv e,Iv s,Iv t] f λn o=>zB CH #[Sv r,.slice (some n) 4 4] o λu v p=>K (.tuple #[.int .u64 u,Iv v]) p) q)) w
def N5(l k:Sl):=
 Al (.cells #[Sv k] 22) (λx w2=>qC #[Iv 0] w2 λg y=>St g (Iv 0) (λz=>qI (-1) 0 z λi b a h=>fD a l.n (qW l a 3 λj=>qa h j λo p q=>zz h λc m=>qU [Iv o,Iv p,.bool q] c m λd=>qa d c λr s t=>qF Va #[.agg #[Iv r,Iv s,.bool t],Pv (some g),Pv (some x)] d λu e=>cond u (Dr (λf=>qL f c 1 λv=>St g (Iv v) (λn=>(i a (i64.wrap (a+1)) n)) f) e) ((i b (i64.wrap (a+1)) e))) (K (Iv b) h)) y) w
variable{K w}
def ZG(c b a)(h:Ny K w c b a):=bM {} #[Pv (some c),Pv (some b),Pv (some a)] K w func99 h
def ZH(s)(h:Nz K w s):=bM (z8 [] [(1,[[0,1,2,3,5,6,7,8,4,9,10,11,12]],[4,9,11])]) #[Pv s] K w func101 h
def N6:dQ:={}
def ZI:Nat->Bool:=λd=>[].contains d
def ZJ(t:ch)(yield:bE)(K:bf9)(w:bI):m3 P fG gM cx N6 ZI f103 #[(.pointer t),yield] K w=Dk K w t yield:=by kernel_rfl
def ZK:m4 P N6 f103 2=true:=by kernel_rfl
def ZL(t:ch)(yield:bE){K:bf9}{w:bI}(h:Dk K w t yield):Calls P n3 #[(Pv t),yield] w (cz K):=n0 mixed func103 ZK (by rw[ZJ];exact h)
def ZM(t bL)(h:NA K w t bL):=bM {(z8 [16,27,28,42,43,44,45] [(7,[[0,1,2,4,5,3,6,7,8]],[3])] [(5,[(6,.ptr),(15,jZ)])]:dQ)with head:=λr=>(bif r==12 then 17 else 0)} #[Pv t,Iv bL] K w func106 h
def ZN(x)(h:NB K w x):=bM (z8 [14,24,25,27,28] [(4,[jQ 15],[13,14])]) #[.int .u64 x] K w func107 h
def ZO(h:ZD K w):=bM {} #[] K w func120 h
def ZP(n)(h:ZE K w n):=bM (z8 [4,7]) #[Iv n] K w func130 h
def ZQ(l a b c d e f)(h:NC K w l a b c d e f):=bM {(z8 [17,18,24,26,29,30,39] [(8,[[0,1,2,3,4,7,8,9,5,6,10,11,12]],[5,6,10])] [] [(3,[]),(6,[(6,jZ)]),(8,[])]:dQ)with head:=λr=>(bif r==6 then 14 else 0)} #[Sv l,.agg #[Iv a,Iv b,Iv c,Iv d,Iv e,.bool f]] K w func131 h
def ZR(t bL)(h:ND K w t bL):=bM {} #[Pv t,Iv bL] K w func134 h
def ZS(l a b)(h:NF K w l a b):=bM (z8 [16,18,23,38,45,49] [] [(6,[(17,jZ)])]) #[Sv l,Iv a,Iv b] K w func135 h
def ZT(s bL)(h:NG K w s bL):=bM {} #[Pv s,Iv bL] K w func136 h
def ZU(c id)(h:NH K w c id):=bM {} #[Pv c,Iv id] K w func137 h
def N7(c:ch)(jo:bE)(K:bf9)(w:bI):Prop:=
 ∃(n:bf8) (M2:bI->Nat),(Dr (λh=>NN c λH=>qZ h H 5 λJ=>NN J λI=>qK h I 1 λL=>NN c λp=>qL h (p.add 0) 1 λz=>qW L z 2 λq=>qL h q 0 λA=>e1 P jo #[Iv A] h λu e=>∃j:Int,∃k:Int,∃b:Int,u=.returned (.tuple #[Iv j,Iv k,Iv b])/\cond (b==0) (K (.tuple #[Iv j,.bool true]) e) (cond (b !=12) (NN c λr=>St ((r.add 7).add 0) (Iv b) (λx=>K (.tuple #[Iv (-1),.bool false]) x) e) (qF xK #[Pv c,Iv k] e λB i=>cond B (n i) (K (.tuple #[Iv (-1),.bool false]) i)))) w)/\∀M:Nat->bE,∀o:bI,n o->Dr (λa=>NN c λa25=>qZ a a25 5 λC=>NN C λa27=>qK a a27 1 λD=>NN c λa29=>qL a (a29.add 0) 1 λE=>qW D E 2 λs=>qL a s 0 λF=>e1 P jo #[Iv F] a λv f=>∃l:Int,∃m:Int,∃d:Int,v=.returned (.tuple #[Iv l,Iv m,Iv d])/\cond (d==0) (K (.tuple #[Iv l,.bool true]) f) (cond (d !=12) (NN c λt=>St ((t.add 7).add 0) (Iv d) (λy=>K (.tuple #[Iv (-1),.bool false]) y) f) (qF xK #[Pv c,Iv m] f λG g=>cond G ((n g/\M2 g<M2 o)) (K (.tuple #[Iv (-1),.bool false]) g)))) o
def ZV(c jo)(h:N7 c jo K w):=bM {(z8 [32,36] [(1,[jQ 24],[16])]:dQ)with dyn:=λd=>[26].contains d,goto:=λl=>(bif l==0 then some []else none)} #[Pv c,jo] K w func138 h
def ZW(group c b a)(h:NI K w group c b a):=bM (z8 [] [(1,[[0,1,2,3,4,5,6,7,8,10,9,11,12,13,14,15,16,17]],[9,11])]) #[Iv group,Pv (some c),Pv (some b),Pv (some a)] K w func139 h
def ZX(a b c d e f bL)(h:NJ K w a b c d e f bL):=bM (z8 [7,13,16]) #[.agg #[Iv a,Iv b,Iv c,Iv d,Iv e,.bool f],Iv bL] K w func141 h
def ZY(c bL id kind write)(h:NK K w c bL id kind write):=bM {} #[Pv c,Iv bL,Iv id,Iv kind,.bool write] K w func142 h
def ZZ(t bL x)(h:NL K w t bL x):=bM (z8 [18,29,42,43,44,53,65,66,67] [(14,[jQ 19],[15,18])] [(5,[(7,.ptr),(17,jZ)])] [(10,[])]) #[Pv t,Iv bL,.int .u64 x] K w func146 h
def Z0(x)(h:NM K w x):=bM (z8 [6]) #[.int .u64 x] K w func147 h
def Z1(group c b a)(h:NO K w group c b a):=bM (z8 [] [(2,[jQ 17],[10])]) #[Iv group,Pv (some c),Pv (some b),Pv (some a)] K w func148 h
def sO:dQ:={}
def Dn:Nat->Bool:=λd=>[].contains d
def Z2(t:ch)(K:bf9)(w:bI):m3 P fG gM cx sO Dn f154 #[(.pointer t)] K w=Dl K w t:=by kernel_rfl
def Z3:m4 P sO f154 1=true:=by kernel_rfl
def Z4(t:ch){K:bf9}{w:bI}(h:Dl K w t):Calls P BR #[(Pv t)] w (cz K):=n0 mixed func154 Z3 (by rw[Z2];exact h)
def N8(i j:Addr)(c:Int)(d:Nat)(w:bI)(R:Ending->bf8):Prop:=
 lk d (λa=>qb a i λf=>zh sk #[Pv f,Iv c] a λg k b=>qb b j λh=>qQ uF #[Pv h,Iv c,.int .u64 g] b λl e=>e3 d none R e) w
def Z5(t:ch)(c:Addr)(f:ch)(d:Addr)(e:ch)(a:Int)(b:Nat)(w:bI)(R:Ending->bf8):mo P fG gM cx sO Dn 22 b (j9 f154.body) (ka f154.body) (ln [(10,.int .i64 a)] (((((((ji [(.pointer t)] 0 .nil).put (some 1) (.pointer (some c))).put (some 2) (.pointer none)).put (some 7) (.pointer f)).put (some 3) (.pointer (some d))).put (some 8) (.pointer e)).put (some 9) (.func (.func n3) #[(.pointer e)] #[]))) w R=N8 c d a b w R:=by kernel_rfl
def Z6:gL P 22 sO (j9 f154.body)=true/\gL P 22 sO (ka f154.body)=true:=⟨by kernel_rfl,by kernel_rfl⟩
def N9:dQ:={quiet:=λd=>[12,15,17,24,25,26,27,30,38,48].contains d,loop:=λr=>(bif r==2 then[(11,.int .i64)]else[])}
def Z7:Nat->Bool:=λd=>[46].contains d
def Z8(n:ch)(level a:Int)(yield:bE)(K:bf9)(w:bI):m3 P fG gM cx N9 Z7 f161 #[(.pointer n),(.int .i64 level),(.int .i64 a),yield] K w=x5 K w n level a yield:=by kernel_rfl
def Z9:m4 P N9 f161 4=true:=by kernel_rfl
def Oa(n:ch)(level a:Int)(yield:bE){K:bf9}{w:bI}(h:x5 K w n level a yield):Calls P xF #[(Pv n),(Iv level),(Iv a),yield] w (cz K):=n0 mixed func161 Z9 (by rw[Z8];exact h)
def axT(bL)(h:ZF K w bL):=bM (z8 [4,7]) #[Iv bL] K w func164 h
def axS(bL level)(h:NP K w bL level):=bM (z8 [7,8,9,10,11]) #[Iv bL,Iv level] K w func165 h
def awI(h:NQ K w):=bM {} #[] K w func167 h
def axQ(a b c d)(h:NR K w a b c d):=bM (z8 [5,9,14,19]) #[.agg #[Iv a,Iv b,.bool c,.bool d]] K w func168 h
def awO(l)(h:NS K w l):=bM (z8 [7,9,19,23] [] [(3,[(3,jZ),(8,jZ)])]) #[Sv l] K w func196 h
def awP(a b c d e f)(h:NT K w a b c d e f):=bM (z8 [5,11,16,21,24,28,31,34,38,43,52,53,54] [] [] [(3,[])]) #[.agg #[Iv a,Iv b,Iv c,Iv d,Iv e,.bool f]] K w func197 h
def awM(b c d e f g a)(h:NU K w b c d e f g a):=bM (z8 [8]) #[.agg #[Iv b,Iv c,Iv d,Iv e,Iv f,.bool g],Pv (some a)] K w func199 h
def Ob(n bL level)(h:Dm K w n bL level):=bM (z8 [11,20,31,47,48,49] [] [] [(5,[])]) #[Pv n,Iv bL,Iv level] K w func200 h
def awN(d e f g i j a c b)(h:NV K w d e f g i j a c b):=bM (z8 [9] [(2,[jQ 8],[4,5,6,7])]) #[.agg #[Iv d,Iv e,Iv f,Iv g,Iv i,.bool j],Iv a,Iv c,Pv (some b)] K w func201 h
def axV(c d e f g i a b)(h:NW K w c d e f g i a b):=bM (z8 [9,15,16] [] [] [(3,[])]) #[.agg #[Iv c,Iv d,Iv e,Iv f,Iv g,.bool i],Iv a,Iv b] K w func202 h
def axU(l bL)(h:NX K w l bL):=bM (z8 [11]) #[Sv l,Iv bL] K w func203 h
def asf(group b a)(h:NY K w group b a):=bM (z8 [] [(1,[jQ 15],[9])]) #[Iv group,Pv (some b),Pv (some a)] K w func204 h
def awY(c target)(h:NZ K w c target):=bM (z8 [32,34,43,57,58] [(1,[[0,1,2,3,4,5,6,8,9,10,11,13,14,15,16,17,18,19,20,7,12,21,22,23]],[7,12,21,22])] [(3,[(33,jZ)])]) #[Pv c,Iv target] K w func206 h
def ar8(s bL a b c d)(h:N0 K w s bL a b c d):=bM (z8 [25,29] [] [] [(7,[])]) #[Pv s,Iv bL,.agg #[Iv a,Iv b,.bool c,.bool d]] K w func210 h
def azm(x)(h:N1 K w x):=bM (z8 [11,15]) #[.int .u64 x] K w func212 h
def avn(b c d e f g a)(h:N2 K w b c d e f g a):=bM (z8 [7,12]) #[.agg #[Iv b,Iv c,Iv d,Iv e,Iv f,.bool g],Pv (some a)] K w func256 h
def avs(t l target whole)(h:N3 K w t l target whole):=bM (z8 [21,33,40,42,58] [] [(10,[(12,.slice),(41,jZ)])] [(13,[(53,.bool)])]) #[Pv t,Sv l,Iv target,Sv whole] K w func260 h
def azl(a b c d)(h:N4 K w a b c d):=bM (z8 [] [(3,[[1,2,3,4,5,6,8,9,0,7,10,11,12,13,14,15,16]],[0,7,10,11,12])]) #[.agg #[Iv a,Iv b,.bool c,.bool d]] K w func264 h
def ax0(l a)(h:N5 K w l a):=bM (z8 [12,14,24] [(7,[jQ 5],[4])] [(4,[(5,jZ),(13,jZ)])]) #[Sv l,Sv a] K w func289 h
end Go.Mp
namespace Go.Mp
open Go Go.Vc Go.Proofs
variable{K:bf9}{w:bI}
variable(K w)
def Oc(chain:Sl)(target:Int)(whole:Sl):=
 Al (.cells #[Sv whole] 194) (λi w2=>qQ uK #[Sv chain,Iv target] w2 λk j=>qO k j λh i10 b=>cond (decide (i10≥0)) (qW chain i10 1 λc=>qD b c λe=>qF Vb #[Iv e,Pv (some i)] b λf a=>cond f (qW chain i10 1 λd=>qD a d λg=>K (Iv g) a) ((h (i64.wrap (i10-1)) a))) (K (Iv (-1)) b)) w
def aBg(b:Bool):=
 cond b (K (Iv 1) w) (K (Iv 0) w)
def Od(d e:Int)(f:Bool)(c a:Addr):=
 Al (.cells #[Iv d,Iv e,.bool f] 42) (λb w2=>qy w2 b 2 λi=>cond i (qL w2 b 1 λj=>qD w2 c λk=>cond (decide (j>k)) (qc w2 a λl=>qL w2 b 0 λm=>qF py #[Sv l,Iv m] w2 λg h=>K (.bool g) h) (K aN2 w2)) (K aN2 w2)) w
def Oe(g:Int)(a:Addr):=
 cond (decide ((0:Int)<=g)) (qc w a λb=>fD g b.n (qc w a λc=>qW c g 1 λa3=>qm w a3 λd=>K (.bool d) w) (K aN2 w)) (K aN2 w)
variable{K w}
def awT(chain target whole)(h:Oc K w chain target whole):=bM (z8 [16,18] [] [(4,[(9,jZ)])]) #[Sv chain,Iv target,Sv whole] K w func290 h
def aAS(b)(h:aBg K w b):=bM {} #[.bool b] K w func292 h
def avt(c d e b a)(h:Od K w c d e b a):=bM (z8 [11]) #[.agg #[Iv c,Iv d,.bool e],Pv (some b),Pv (some a)] K w func304 h
def aua(g a)(h:Oe K w g a):=bM (z8 [5,9,10]) #[Iv g,Pv (some a)] K w func305 h
end Go.Mp
namespace Go.Mp
open Go Go.Vc Go.Sp Go.Proofs Go.Kc Go.Kv
variable{E:Env}{L:ct}{w W:bI}
def Dp(i:Nat):dm .i64 (i:Int) 15=((i%16:Nat):Int):=by
 have h1:(BitVec.ofInt 64 (i:Int) &&& BitVec.ofInt 64 15).toNat=i%16:=by
  rw[wb,pX,tu];have:(BitVec.ofInt 64 15).toNat=15:=by decide
  rw[this];have h2:=tm (i%2^64) 4;rw[show(2:Nat)^4-1=15 by decide]at h2;rw[h2];omega
 show i64.wrap ((BitVec.ofInt 64 (i:Int) &&& BitVec.ofInt 64 15).toNat:Int)=_;rw[h1];exact cP bu bu
def nD{n:Nat}(h:n<65536):IntKind.u16.wrap (n:Int)=(n:Int):=by
 unfold IntKind.wrap;simp only[IntKind.signed,IntKind.bits,wg];rw[bJ bN];omega
def rh(i:Nat):dm .u16 (i:Int) 1=((i%2:Nat):Int):=by
 have h1:(BitVec.ofInt 16 (i:Int) &&& BitVec.ofInt 16 1).toNat=i%2:=by
  rw[wb,pX,tu];have:(BitVec.ofInt 16 1).toNat=1:=by decide
  rw[this];have h2:=tm (i%2^16) 1;rw[show(2:Nat)^1-1=1 by decide]at h2;rw[h2];omega
 show IntKind.u16.wrap ((BitVec.ofInt 16 (i:Int) &&& BitVec.ofInt 16 1).toNat:Int)=_;rw[h1];exact nD bu
def Of(bL:Int)(w:bI):Calls P BV #[Iv bL] w (cz λv w'=>v=.bool (decide (0<=bL/\bL<65536))/\w'=w):=by
 apply axT;refine h6 (λa=>⟨?_,rfl⟩) (λa=>⟨?_,rfl⟩);·exact eJ Value.bool (tB.2 ⟨λe=>⟨a,e⟩,λe=>e.2⟩)
 ·exact eJ Value.bool (dg (λe=>bu)).symm
def sP{p l:Nat}(hl:l<=3)(w:bI):Calls P sr #[Iv (p:Nat),Iv (l:Nat)] w (cz λv w'=>v=Iv (p/16^(3-l)%16:Nat)/\w'=w):=by
 apply axS;have e:u64.wrap (i64.wrap (4*(i64.wrap (3-((l:Nat):Int)))))=((4*(3-l):Nat):Int):=by
  have:l=0\/l=1\/l=2\/l=3:=by omega
  rcases this with rfl|rfl|rfl|rfl<;>decide
 unfold NP;rw[e];refine⟨bu,?_,rfl⟩;have a:min ((((4*(3-l):Nat):Int)).toNat) 64=4*(3-l):=by omega
 rw[a,sh p (4*(3-l)),Dp];have b:(2:Nat)^(4*(3-l))=16^(3-l):=by rw[Nat.pow_mul]
 rw[b]
def aFt{ks ws:bA (bV Nat)}{h d:Nat}(hk:ks.length=16)(a:d<16):(gq ks ws h)[d]?=some (.pointer ((ks.getD d none).map λb=>⟨b,0,none⟩)):=by
 unfold gq mm;rw[eM (by simp;omega),eC,dJ,dP];rfl
def aDB{ks ws:bA (bV Nat)}{h d:Nat}(hk:ks.length=16)(hw:ws.length=16)(a:d<16):(gq ks ws h)[16+d]?=some (.int .u64 (((ws.getD d none).getD 0:Nat):Int)):=by
 unfold gq mm m2;rw[fM (by simp;omega),ei,hk,tp,eM (by simp;omega),eC,dJ (l:=ws),dP];rfl
def oN{ks ws:bA (bV Nat)}{h:Nat}(hk:ks.length=16)(hw:ws.length=16):(gq ks ws h)[32]?=some (.int .u16 (h:Int)):=by
 unfold gq mm m2;rw[fM (by simp;omega),ei,hk,fM (by simp;omega),ei,hw];rfl
def oa:dz.length=16:=by simp[dz]
def gN{m:Nat}(t:RT (m+1))(d:Nat):bV (Nat×RT m):=List.getD (t:bA (bV (Nat×RT m))) d none
def aJR{α:Type}(ks:bA (bV (Nat×α)))(d:Nat):(ks.map (Option.map Prod.fst)).getD d none=(ks.getD d none).map Prod.fst:=by
 rw[dJ,eC,dJ];cases ks[d]? with
 |none=>rfl
 |some y=>cases y<;>rfl
def uU{m d:Nat}{t:RT (m+1)}(c:RT.ok (m+1) t)(a:d<16):(RT.vs (m+1) t)[d]?=some (.pointer ((gN t d).map λq=>⟨q.1,0,none⟩)):=by
 obtain⟨ks,rfl⟩:∃ks:bA (bV (Nat×RT m)),ks=t:=⟨t,rfl⟩
 have hl:ks.length=16:=c.1;have h1:(gq (ks.map (Option.map Prod.fst)) dz (hasB (ks.map Option.isSome)))[d]?=some (.pointer (((ks.map (Option.map Prod.fst)).getD d none).map λb=>⟨b,0,none⟩)):=aFt (by rw[ei];exact hl) a;rw[aJR]at h1;have h2:(((ks.getD d none).map Prod.fst).map λb=>(⟨b,0,none⟩:Addr))=(ks.getD d none).map λq=>⟨q.1,0,none⟩:=by cases ks.getD d none<;>rfl
 rw[h2]at h1;exact h1
def nE{m:Nat}(t:RT (m+1))(p:Nat):RT.look (m+1) t p=match gN t (p/16^(m+1)%16)with|none=>none|some (_,s)=>RT.look m s p:=rfl
def x6{m d b:Nat}{t:RT (m+1)}{s:RT m}(a:RT.ok (m+1) t)(hk:gN t d=some (b,s)):RT.ok m s:=a.2 d b s hk
def aGZ{m d b a:Nat}{t:RT (m+1)}{s:RT m}{M:ct}{w:bI}(hk:gN t d=some (a,s))(h:Sep E (dI (m+1) b t++M) w):∃e,(∀w,Sep E (dI (m+1) b t++M) w->Sep E (dI m a s++e) w)/\Sep E (dI m a s++e) w:=by
 obtain⟨ks,rfl⟩:∃ks:bA (bV (Nat×RT m)),ks=t:=⟨t,rfl⟩
 have c:ks[d]?=some (some (a,s)):=by
  have h1:ks.getD d none=some (a,s):=hk;rw[dJ]at h1;cases h2:ks[d]? with
  |none=>rw[h2]at h1;cases h1
  |some y=>rw[h2]at h1;exact eJ some h1
 exact⟨_,λw h=>dI.open c h,dI.open c h⟩
def pF{m b j:Nat}{t:RT m}{M:ct}{w:bI}(h:Sep E (dI m b t++M) w):w.cell? ⟨b,j,none⟩=(RT.vs m t)[j]? :=by
 cases m with
 |zero=>exact(show Sep E (bC b (RT.vs 0 t)::M) w from h).cell j
 |succ m=>exact(show Sep E (bC b (RT.vs (m+1) t)::(List.flatMap (e2 m) (t:bA (bV (Nat×RT m)))++M)) w from h).cell j
def aJa{t:RT 0}(a:RT.ok 0 t){p:Nat}:(RT.vs 0 t)[16+p%16]?=some (.int .u64 (((RT.look 0 t p).getD 0:Nat):Int))/\∃h:Nat,h<65536/\(RT.vs 0 t)[32]?=some (.int .u16 (h:Int))/\h/2^(p%16)%2=if(RT.look 0 t p).isSome then 1 else 0:=by
 obtain⟨ws,rfl⟩:∃ws:bA (bV Nat),ws=t:=⟨t,rfl⟩
 have hl:ws.length=16:=a;refine⟨aDB oa hl (kM _ bN),hasB (ws.map Option.isSome),?_,oN oa hl,?_⟩
 ·have:=oJ (ws.map Option.isSome);rw[ei,hl]at this;exact this
 ·rw[uw];have:(ws.map Option.isSome).getD (p%16) false=(ws.getD (p%16) none).isSome:=by
   rw[dJ,eC,dJ];cases ws[p%16]? with
   |none=>rfl
   |some y=>rfl
  rw[this];rfl
def iq(T:RT 3)(bL:Int):bV Nat:=if 0<=bL/\bL<65536 then RT.look 3 T bL.toNat else none
def Dq{t:Nat}{T:RT 3}{bL:Int}(F:RT.ok 3 T)(h:Sep E (dI 3 t T++L) w):Calls P sk #[Pb t,Iv bL] w
  (cW E (.tuple #[.int .u64 (((iq T bL).getD 0:Nat):Int),.bool (iq T bL).isSome]) (dI 3 t T++L)):=by
 apply ZM;unfold NA qF qQ qb zb;refine use (Of bL w) ?_;rintro _ _ ⟨rfl,rfl⟩;refine⟨_,rfl,cv (λhr=>?_) (λhr=>?_)⟩
 ·have hr:¬ (0<=bL/\bL<65536):=kg (by simpa only[ib]using hr);unfold iq;rw[bJ hr];exact⟨rfl,h⟩
 have hr:0<=bL/\bL<65536:=by simpa using hr
 have u:iq T bL=RT.look 3 T bL.toNat:=by unfold iq;rw[bK hr]
 obtain⟨p,rfl⟩:∃p:Nat,bL=p:=⟨bL.toNat,bu⟩
 rw[dA]at u;rw[u];refine⟨_,rfl,λn9 x w'=>∃(n b:Nat) (s:RT n) (M:ct),x=((3-n:Nat):Int)/\n<=3/\n9=some ⟨b,0,none⟩/\RT.ok n s/\RT.look n s p=RT.look 3 T p/\(∀w,Sep E (dI 3 t T++L) w->Sep E (dI n b s++M) w)/\Sep E (dI 3 t T++L) w',
  λ_ x _=>(3-x).toNat,⟨3,t,T,L,rfl,ek _,by rw[cf],F,rfl,λ_ h=>h,h⟩,?_⟩
 rintro _ _ _ K ⟨n,b,s,M,rfl,hn,rfl,q,a,o,h1⟩;refine cU (λQ=>?_) (λO=>?_)
 ·obtain⟨m,rfl⟩:∃m,n=m+1:=⟨n-1,bu⟩
  refine Dr.i h1 (λw2 h2=>⟨_,rfl,use (sP (p:=p) (l:=3-(m+1)) bu w2) ?_⟩);rintro _ _ ⟨rfl,rfl⟩;have H:3-(3-(m+1))=m+1:=by omega
  rw[H];obtain⟨d,C⟩:∃d,p/16^(m+1)%16=d:=⟨_,rfl⟩
  rw[C];have g:d<16:=by omega
  have I:=uU q g;have c:=nE s p;rw[C]at c;have f:=o _ h2;have B:=pF (j:=d) f;rw[I]at B;refine⟨_,rfl,_,rfl,⟨bu,bu⟩,?_⟩;rw[cf,cf,dA,show 0+0+d*1=d by omega];refine⟨_,B,?_⟩;cases hk:gN s d with
  |none=>
   rw[hk]at c;refine bT rfl ⟨?_,h2⟩;rw[<- a,c];rfl
  |some y=>
   obtain⟨J,s'⟩:=y;rw[hk]at c;obtain⟨G,r,_⟩:=aGZ hk f;refine bF rfl ⟨⟨m,J,s',G,?_,bu,rfl,x6 q hk,by rw[<- a,c],λw h=>r w (o w h),h2⟩,?_⟩;·rw[dc];omega
   ·rw[dc];show((3:Int)-((3-(m+1)+1:Nat):Int)).toNat<((3:Int)-((3-(m+1):Nat):Int)).toNat;omega
 ·have D:n=0:=by omega
  subst D;refine use (sP (p:=p) (l:=3) bu K) ?_;rintro _ _ ⟨rfl,rfl⟩;obtain⟨hw,hb,N,z,A⟩:=aJa q (p:=p);rw[show p/16^(3-3)%16=p%16 by rw[iV,zc,zj]];have g:p%16<16:=kM _ bN;refine⟨_,rfl,Dr.i h1 (λw2 h2=>?_)⟩;have f:=o _ h2;have i:=pF (j:=16+p%16) f;have k:=pF (j:=32) f;rw[hw]at i;rw[z]at k;refine⟨_,rfl,_,rfl,⟨bu,bu⟩,?_⟩;rw[cf,cf,dA,show 0+16+p%16*1=16+p%16 by omega];refine⟨_,i,_,rfl,_,by rw[cf,fx];exact k,?_,?_,h2⟩;·rw[dq];omega
  ·have e:(dm .u16 ((hb:Int).fdiv (2^(min (u64.wrap ((p%16:Nat):Int)).toNat 16))) 1 !=0)=(RT.look 3 T p).isSome:=by
    rw[dq,dA,show min (p%16) 16=p%16 by omega,sh,rh,A,a];cases(RT.look 3 T p).isSome<;>rfl
   rw[e,a]
def nF(n:Nat)(t a:RT n)(p x:Nat):Prop:=∀q,RT.look n a q=if q%16^(n+1)=p%16^(n+1)then some x else RT.look n t q
def ha{m:Nat}(t:RT (m+1))(d:Nat)(k:Nat×RT m):RT (m+1):=List.set (t:bA (bV (Nat×RT m))) d (some k)
def x7{m d e:Nat}{t:RT (m+1)}{k:Nat×RT m}(b:RT.ok (m+1) t)(c:d<16):gN (ha t d k) e=if e=d then some k else gN t e:=by
 obtain⟨ks,rfl⟩:∃ks:bA (bV (Nat×RT m)),ks=t:=⟨t,rfl⟩
 have hl:ks.length=16:=b.1;show(ks.set d (some k)).getD e none=if e=d then some k else ks.getD e none
 rw[dJ,hd,dJ];by_cases h:d=e;·rw[bK h,eK,bK h.symm];rfl
 ·rw[bJ h,bJ (λa=>h a.symm)]
def Ds{m d:Nat}{t:RT (m+1)}{b:Nat}{s:RT m}(a:RT.ok (m+1) t)(f:d<16)(ho:RT.ok m s):RT.ok (m+1) (ha t d (b,s)):=by
 have hl:List.length (t:bA (bV (Nat×RT m)))=16:=a.1;refine⟨by show(List.set (t:bA (bV (Nat×RT m))) d (some (b,s))).length=16;exact dW.trans hl,λi c e h=>?_⟩;have h:gN (ha t d (b,s)) i=some (c,e):=h;rw[x7 a f]at h;split at h;·cases h;exact ho
 ·exact a.2 i c e h
def Dt(p n:Nat):p/16^n%16=p%16^(n+1)/16^n:=by
 rw[p3,Nat.mod_mul_right_div_self]
def eH{p q n:Nat}:q%16^(n+1+1)=p%16^(n+1+1)↔q/16^(n+1)%16=p/16^(n+1)%16/\q%16^(n+1)=p%16^(n+1):=by
 have key:∀a:Nat,a%16^(n+1+1)=16^(n+1)*(a/16^(n+1)%16)+a%16^(n+1):=by
  intro a;rw[Dt a (n+1)];have h1:=Nat.div_add_mod (a%16^(n+1+1)) (16^(n+1));have h2:a%16^(n+1+1)%16^(n+1)=a%16^(n+1):=Nat.mod_mod_of_dvd _ ⟨16,by rw[p3]⟩;rw[h2]at h1;exact h1.symm
 constructor
 ·intro h;refine⟨by rw[Dt q (n+1),Dt p (n+1),h],?_⟩;have h2:∀a:Nat,a%16^(n+1+1)%16^(n+1)=a%16^(n+1):=λa=>Nat.mod_mod_of_dvd _ ⟨16,by rw[p3]⟩;rw[<- h2 q,<- h2 p,h]
 ·rintro⟨h1,h2⟩;rw[key q,key p,h1,h2]
def nF.up{m d b p x:Nat}{t:RT (m+1)}{s s':RT m}(i:RT.ok (m+1) t)(g:p/16^(m+1)%16=d)(hk:(∃f,gN t d=some (f,s))\/(gN t d=none/\s=RT.zero m))(h:nF m s s' p x):nF (m+1) t (ha t d (b,s')) p x:=by
 have c:d<16:=by omega
 intro q;rw[nE,nE,x7 i c];by_cases a:q/16^(m+1)%16=d
 ·rw[bK a];show RT.look m s' q=_;rw[h q];by_cases h2:q%16^(m+1)=p%16^(m+1);·rw[bK h2,bK (eH.2 ⟨bu,h2⟩)]
  ·rw[bJ h2,bJ (λe=>h2 (eH.1 e).2),a];rcases hk with⟨f,hk⟩|⟨hk,rfl⟩
   ·rw[hk]
   ·rw[hk];exact RT.jD m q
 ·rw[bJ a,bJ (λe=>a (by rw[(eH.1 e).1];exact g))]
def ri(t:RT 0)(d x:Nat):RT 0:=List.set (t:bA (bV Nat)) d (some x)
def nF.leaf{p x:Nat}{t:RT 0}(b:RT.ok 0 t):nF 0 t (ri t (p%16) x) p x:=by
 obtain⟨ws,rfl⟩:∃ws:bA (bV Nat),ws=t:=⟨t,rfl⟩
 have hl:ws.length=16:=b;intro q;show(ws.set (p%16) (some x)).getD (q%16) none=if q%16^1=p%16^1 then some x else ws.getD (q%16) none
 rw[Nat.pow_one,dJ,hd,dJ];have:=kM p (by decide:0<16);by_cases h:p%16=q%16;·rw[bK h,eK,bK h.symm];rfl
 ·rw[bJ h,bJ (λa=>h a.symm)]
def aIX{t:RT 0}{d x:Nat}(a:RT.ok 0 t):RT.ok 0 (ri t d x):=by
 show(List.set (t:bA (bV Nat)) d (some x)).length=16;exact dW.trans a
def x8(l:bA Bool)(i:Nat):(hasB l).testBit i=l.getD i false:=by
 rw[bc3,uw];cases l.getD i false<;>rfl
def Og(l:bA Bool){d:Nat}(a:d<l.length):hasB l ||| 2^d=hasB (l.set d true):=by
 apply vW;intro i;rw[Nat.testBit_or,rG,x8,x8,dJ,dJ,hd];by_cases h:d=i;·subst h;simp[a]
 ·simp[h]
def uV{h d:Nat}(c:h<65536)(g:d<16):iY .u16 (h:Int) (IntKind.u16.wrap (1*2^(min (u64.wrap ((d:Nat):Int)).toNat 16)))=((h ||| 2^d:Nat):Int):=by
 have h2:(2:Nat)^d<65536:=by
  have:(2:Nat)^d<=2^15:=tq bN bu;omega
 have e:IntKind.u16.wrap (1*2^(min (u64.wrap ((d:Nat):Int)).toNat 16))=((2^d:Nat):Int):=by
  rw[dq,dA,show min d 16=d by omega,Int.one_mul];have:((2:Int)^d)=((2^d:Nat):Int):=by rw[Int.natCast_pow];rfl
  rw[this];exact nD h2
 rw[e];show IntKind.u16.wrap ((BitVec.ofInt 16 (h:Int) ||| BitVec.ofInt 16 ((2^d:Nat):Int)).toNat:Int)=_;have b:∀a:Nat,a<65536->(BitVec.ofInt 16 (a:Int)).toNat=a:=λa f=>by
  rw[pX,tu];exact mJ bu
 rw[BitVec.toNat_or,b h c,b _ h2];exact nD (Nat.or_lt_two_pow (n:=16) c h2)
def aJb{m d b:Nat}{t:RT (m+1)}{s:RT m}(f:RT.ok (m+1) t)(e:d<16):∃h:Nat,h<65536/\(RT.vs (m+1) t)[32]?=some (.int .u16 (h:Int))/\
  ((RT.vs (m+1) t).set d (Pb b)).set 32 (.int .u16 ((h ||| 2^d:Nat):Int))=RT.vs (m+1) (ha t d (b,s)):=by
 obtain⟨ks,rfl⟩:∃ks:bA (bV (Nat×RT m)),ks=t:=⟨t,rfl⟩
 have hl:ks.length=16:=f.1;have c:(ks.map Option.isSome).length=16:=by rw[ei];exact hl
 refine⟨hasB (ks.map Option.isSome),?_,oN (by rw[ei];exact hl) oa,?_⟩
 ·have:=oJ (ks.map Option.isSome);rw[c]at this;exact this
 ·rw[Og _ (by rw[c];exact e)];show((gq (ks.map (Option.map Prod.fst)) dz _).set d _).set 32 _=gq ((ks.set d (some (b,s))).map (Option.map Prod.fst)) dz (hasB ((ks.set d (some (b,s))).map Option.isSome));rw[hG,hG];rw[show Option.isSome (some (b,s))=true from rfl];generalize hasB ((ks.map Option.isSome).set d true)=H;unfold gq mm m2;have a:((ks.map (Option.map Prod.fst)).map λk=>Value.pointer (k.map λb=>⟨b,0,none⟩)).length=16:=by simp[hl]
  rw[rF _ _ (by rw[a];exact e),hG];rw[jx 32 _ (by rw[dW,a];decide),dW,a];rw[jx _ _ (by simp[dz])];congr 2
def aJc{d x:Nat}{t:RT 0}(f:RT.ok 0 t)(e:d<16):∃h:Nat,h<65536/\(RT.vs 0 t)[32]?=some (.int .u16 (h:Int))/\
  ((RT.vs 0 t).set (16+d) (.int .u64 (x:Int))).set 32 (.int .u16 ((h ||| 2^d:Nat):Int))=RT.vs 0 (ri t d x):=by
 obtain⟨ws,rfl⟩:∃ws:bA (bV Nat),ws=t:=⟨t,rfl⟩
 have hl:ws.length=16:=f;have c:(ws.map Option.isSome).length=16:=by rw[ei];exact hl
 refine⟨hasB (ws.map Option.isSome),?_,oN oa hl,?_⟩
 ·have:=oJ (ws.map Option.isSome);rw[c]at this;exact this
 ·rw[Og _ (by rw[c];exact e)];show((gq dz ws _).set (16+d) _).set 32 _=gq dz (ws.set d (some x)) (hasB ((ws.set d (some x)).map Option.isSome));rw[hG];rw[show Option.isSome (some x)=true from rfl];generalize hasB ((ws.map Option.isSome).set d true)=H;unfold gq mm m2;have a:(dz.map λk=>Value.pointer (k.map λb=>⟨b,0,none⟩)).length=16:=by simp[dz]
  rw[jx (16+d) _ (by rw[a];omega),a,tp,rF d _ (by rw[ei,hl];exact e)];rw[jx 32 _ (by rw[a];decide),a,jx _ _ (by rw[dW,ei,hl];decide),dW,ei,hl,hG];rfl
def aJ7: [Value.pointer none,.pointer none,.pointer none,.pointer none,.pointer none,.pointer none,.pointer none,.pointer none,.pointer none,.pointer none,.pointer none,.pointer none,.pointer none,.pointer none,.pointer none,.pointer none,
  .int .u64 0,.int .u64 0,.int .u64 0,.int .u64 0,.int .u64 0,.int .u64 0,.int .u64 0,.int .u64 0,.int .u64 0,.int .u64 0,.int .u64 0,.int .u64 0,.int .u64 0,.int .u64 0,.int .u64 0,.int .u64 0,.int .u16 0]=gq dz dz 0:=by
 simp[gq,mm,m2,dz,List.replicate]
def Oh{m d b:Nat}{t:RT (m+1)}{s s':RT m}:RT.vs (m+1) (ha t d (b,s))=RT.vs (m+1) (ha t d (b,s')):=by
 obtain⟨ks,rfl⟩:∃ks:bA (bV (Nat×RT m)),ks=t:=⟨t,rfl⟩
 show gq ((ks.set d (some (b,s))).map (Option.map Prod.fst)) dz (hasB ((ks.set d (some (b,s))).map Option.isSome))=gq ((ks.set d (some (b,s'))).map (Option.map Prod.fst)) dz (hasB ((ks.set d (some (b,s'))).map Option.isSome));rw[hG,hG,hG,hG];simp only[gg,F4]
def Oi(n:Nat): [Value.pointer none,.pointer none,.pointer none,.pointer none,.pointer none,.pointer none,.pointer none,.pointer none,.pointer none,.pointer none,.pointer none,.pointer none,.pointer none,.pointer none,.pointer none,.pointer none,
  .int .u64 0,.int .u64 0,.int .u64 0,.int .u64 0,.int .u64 0,.int .u64 0,.int .u64 0,.int .u64 0,.int .u64 0,.int .u64 0,.int .u64 0,.int .u64 0,.int .u64 0,.int .u64 0,.int .u64 0,.int .u64 0,.int .u16 0]=RT.vs n (RT.zero n):=by
 have h1:RT.vs n (RT.zero n)=gq dz dz 0:=by
  cases n with
  |zero=>
   show gq dz (List.replicate 16 none) (hasB (List.map Option.isSome (List.replicate 16 (none:bV Nat))))=_;rw[S7,show hasB (List.replicate 16 (Option.isSome (none:bV Nat)))=0 by simp[hasB,List.replicate]];rfl
  |succ n=>
   show gq (List.map (Option.map Prod.fst) (List.replicate 16 (none:bV (Nat×RT n)))) dz (hasB (List.map Option.isSome (List.replicate 16 (none:bV (Nat×RT n)))))=_;rw[S7,S7,show hasB (List.replicate 16 (Option.isSome (none:bV (Nat×RT n))))=0 by simp[hasB,List.replicate],show List.replicate 16 (Option.map Prod.fst (none:bV (Nat×RT n)))=dz from rfl]
 rw[h1];exact aJ7
def Oj(n b:Nat):dI n b (RT.zero n)= [bC b (RT.vs n (RT.zero n))]:=by
 cases n with
 |zero=>rfl
 |succ n=>
  show bC b _::List.flatMap (e2 n) (List.replicate 16 none)=_;have:List.flatMap (e2 n) (List.replicate 16 none)= []:=by
   rw[List.flatMap_eq_nil_iff];intro x hx;rw[(List.mem_replicate.1 hx).2];rfl
  rw[this]
def Ol{m d b a:Nat}{t:RT (m+1)}{s:RT m}{w:bI}(c:RT.ok (m+1) t)(e:d<16)(h:Sep E (dI m a s++(bC b (RT.vs (m+1) (ha t d (a,s)))::(j8 m (t:bA (bV (Nat×RT m))) d++L))) w):Sep E (dI (m+1) b (ha t d (a,s))++L) w:=
 dI.shut (ks:=(t:bA (bV (Nat×RT m)))) (by have:List.length (t:bA (bV (Nat×RT m)))=16:=c.1;omega) h
def Om{m d b:Nat}{t:RT (m+1)}{w:bI}(a:RT.ok (m+1) t)(c:d<16)(h:Sep E (dI (m+1) b t++L) w):
  Sep E (bC b (RT.vs (m+1) t)::((e2 m (gN t d))++(j8 m (t:bA (bV (Nat×RT m))) d++L))) w:=by
 obtain⟨ks,rfl⟩:∃ks:bA (bV (Nat×RT m)),ks=t:=⟨t,rfl⟩
 have hl:ks.length=16:=a.1;have hk:ks[d]?=some (gN ks d):=by
  have:gN ks d=ks.getD d none:=rfl;rw[this,dJ,dP];rfl
 have h1:Sep E (bC b (RT.vs (m+1) ks)::(List.flatMap (e2 m) ks++L)) w:=h;rw[r9 hk]at h1;refine h1.perm (List.Perm.cons _ ?_);unfold j8;generalize List.flatMap (e2 m) (ks.take d)=A;generalize List.flatMap (e2 m) (ks.drop (d+1))=B;generalize e2 m (gN ks d)=C;simp only[dj];have h1:=rE (B++L) (l1 (l₁:=A) (l₂:=C));rwa[dj,dj]at h1
def aJG{t x:Nat}{T:RT 3}{bL:Int}(R:RT.ok 3 T)(h:Sep E (dI 3 t T++L) w):Calls P uF #[Pb t,Iv bL,.int .u64 (x:Int)] w
  (cz λv w'=>(¬ (0<=bL/\bL<65536)/\v=Iv 1/\Sep E (dI 3 t T++L) w')\/((0<=bL/\bL<65536)/\v=Iv 0/\∃T':RT 3,RT.ok 3 T'/\nF 3 T T' bL.toNat x/\Sep E (dI 3 t T'++L) w')):=by
 apply ZZ;unfold NL qF qQ qb qg zb;refine use (Of bL w) ?_;rintro _ _ ⟨rfl,rfl⟩;refine⟨_,rfl,cv (λhr=>?_) (λhr=>?_)⟩
 ·have hr:¬ (0<=bL/\bL<65536):=kg (by simpa only[ib]using hr);exact .inl ⟨hr,rfl,h⟩
 have hr:0<=bL/\bL<65536:=by simpa using hr
 obtain⟨p,rfl⟩:∃p:Nat,bL=p:=⟨bL.toNat,bu⟩
 rw[dA];obtain⟨G,I⟩:∃G:bf8,G= λw'=>∃T':RT 3,RT.ok 3 T'/\nF 3 T T' p x/\Sep E (dI 3 t T'++L) w':=⟨_,rfl⟩
 have fin:∀w',G w'->(¬ (0<=(p:Int)/\(p:Int)<65536)/\(Value.int .i64 0=Iv 1)/\Sep E (dI 3 t T++L) w')\/((0<=(p:Int)/\(p:Int)<65536)/\Value.int .i64 0=Iv 0/\∃T':RT 3,RT.ok 3 T'/\nF 3 T T' p x/\Sep E (dI 3 t T'++L) w'):=by
  intro w' O;rw[I]at O;exact .inr ⟨hr,rfl,O⟩
 refine⟨_,rfl,λn9 y w'=>∃(n b:Nat) (s:RT n) (M:ct),y=((3-n:Nat):Int)/\n<=3/\n9=some ⟨b,0,none⟩/\RT.ok n s/\(∀s' o,RT.ok n s'->nF n s s' p x->Sep E (dI n b s'++M) o->G o)/\Sep E (dI n b s++M) w',
  λ_ y _=>(3-y).toNat,⟨3,t,T,L,rfl,ek _,by rw[cf],R,λs' o h1 h2 g=>by rw[I];exact⟨s',h1,h2,g⟩,h⟩,?_⟩
 rintro _ _ _ o ⟨n,b,s,M,rfl,hn,rfl,c,C,h1⟩;refine cU (λW=>?_) (λV=>?_)
 ·obtain⟨m,rfl⟩:∃m,n=m+1:=⟨n-1,bu⟩
  refine use (sP (p:=p) (l:=3-(m+1)) bu o) ?_;rintro _ _ ⟨rfl,rfl⟩;have U:3-(3-(m+1))=m+1:=by omega
  rw[U];obtain⟨d,N⟩:∃d,p/16^(m+1)%16=d:=⟨_,rfl⟩
  rw[N];have a:d<16:=by omega
  have F:=uU c a;have J:=pF (j:=d) h1;rw[F]at J;have k:=Om c a h1;have hlen:(RT.vs (m+1) s).length=33:=by
   obtain⟨ks,rfl⟩:∃ks:bA (bV (Nat×RT m)),ks=s:=⟨s,rfl⟩
   have hl:ks.length=16:=c.1;show(gq (ks.map (Option.map Prod.fst)) dz _).length=33;simp[gq,mm,m2,dz,hl]
  refine⟨_,rfl,λw'=>∃(f:Nat) (s1:RT m),RT.ok m s1/\((∃S,gN s d=some (S,s1))\/(gN s d=none/\s1=RT.zero m))/\
   Sep E (bC b ((RT.vs (m+1) s).set d (Pb f))::(dI m f s1++(j8 m (s:bA (bV (Nat×RT m))) d++M))) w',?_,?_⟩
  ·refine⟨_,rfl,_,rfl,⟨bu,bu⟩,?_⟩;rw[cf,cf,dA,show 0+0+d*1=d by omega];refine⟨_,J,?_⟩;cases hk:gN s d with
   |none=>
    rw[hk]at k;refine bT rfl (Al.i k (λf w2 h2=>⟨_,rfl,_,rfl,⟨bu,bu⟩,?_⟩));rw[cf,cf,dA,show 0+0+d*1=d by omega];refine St.i h2.swap (by rw[hlen];omega) (λH g=>⟨f,RT.zero m,RT.lR m,.inr ⟨rfl,rfl⟩,?_⟩);rw[Oj,<- Oi];exact g
   |some y=>
    obtain⟨f,s1⟩:=y;rw[hk]at k;refine bF rfl ⟨f,s1,x6 c hk,.inl ⟨f,rfl⟩,?_⟩;have:(RT.vs (m+1) s).set d (Pb f)=RT.vs (m+1) s:=by
     rw[hk]at F;apply hg;intro i;rw[hd];split;·next e=>subst e;rw[F,bK (by rw[hlen];omega)];rfl
     ·rfl
    rw[this];exact k
  rintro _ w2 ⟨f,s1,D,hk,h2⟩;obtain⟨hb,q,r,u⟩:=aJb (b:=f) (s:=s1) c a;have z:w2.cell? ⟨b,32,none⟩=some (.int .u16 (hb:Int)):=by
   rw[h2.cell 32,iE bu,r]
  refine⟨_,rfl,_,by rw[cf,fx];exact z,by rw[dq];omega,_,rfl,?_⟩;dsimp only;rw[cf,fx,uV q a];refine St.i h2 (by rw[dW,hlen];omega) (λH g=>?_);rw[u]at g;have K:H.cell? ⟨b,d,none⟩=some (Pb f):=by
   rw[g.cell d,uU (Ds c a D) a,x7 c a,bK rfl];rfl
  refine⟨_,rfl,_,rfl,⟨bu,bu⟩,?_⟩;rw[cf,cf,dA,show 0+0+d*1=d by omega];refine⟨_,K,⟨m,f,s1,bC b (RT.vs (m+1) (ha s d (f,s1)))::(j8 m (s:bA (bV (Nat×RT m))) d++M),?_,bu,rfl,D,?_,?_⟩,?_⟩;·rw[dc];omega
  ·intro s' B ho hu A;refine C (ha s d (f,s')) B (Ds c a ho) (nF.up c N hk hu) (Ol c a ?_);rw[Oh (s:=s') (s':=s1)];exact A
  ·exact g.perm jf.symm
  ·rw[dc];show((3:Int)-((3-(m+1)+1:Nat):Int)).toNat<((3:Int)-((3-(m+1):Nat):Int)).toNat;omega
 ·have Q:n=0:=by omega
  subst Q;refine use (sP (p:=p) (l:=3) bu o) ?_;rintro _ _ ⟨rfl,rfl⟩;rw[show p/16^(3-3)%16=p%16 by rw[iV,zc,zj]];have a:p%16<16:=kM _ bN;refine⟨_,rfl,Dr.i h1 (λw2 h2=>?_)⟩;have h2:Sep E (bC b (RT.vs 0 s)::M) w2:=h2;have hlen:(RT.vs 0 s).length=33:=by
   obtain⟨ws,rfl⟩:∃ws:bA (bV Nat),ws=s:=⟨s,rfl⟩
   have hl:ws.length=16:=c;show(gq dz ws _).length=33;simp[gq,mm,m2,dz,hl]
  obtain⟨hb,q,r,u⟩:=aJc (x:=x) c a;have z:w2.cell? ⟨b,32,none⟩=some (.int .u16 (hb:Int)):=by rw[h2.cell 32,r]
  refine⟨_,rfl,_,by rw[cf,fx];exact z,by rw[dq];omega,_,rfl,_,rfl,⟨bu,bu⟩,?_⟩;rw[cf,cf,dA,show 0+16+p%16*1=16+p%16 by omega];refine St.i h2 (by rw[hlen];omega) (λH g=>⟨rfl,_,rfl,?_⟩);dsimp only;rw[cf,fx,uV q a];refine St.i g (by rw[dW,hlen];omega) (λB A=>fin B ?_);rw[u]at A;exact C _ B (aIX c) (nF.leaf c) A
def aDq(h:Sep E L w):Calls P xB #[] w (cz λv w'=>∃t:Nat,v=Pb t/\Sep E (dI 3 t (RT.zero 3)++L) w'):=by
 apply ZO;refine Al.i h (λt a h1=>⟨t,rfl,?_⟩);rw[Oj,<- Oi];exact h1
def lW(n:Nat)(t a:RT n)(p:Nat):Prop:=∀q,RT.look n a q=if q%16^(n+1)=p%16^(n+1)then none else RT.look n t q
def jT{m:Nat}(t:RT (m+1))(d:Nat):RT (m+1):=List.set (t:bA (bV (Nat×RT m))) d none
def oO(t:RT 0)(d:Nat):RT 0:=List.set (t:bA (bV Nat)) d none
def On{m d e:Nat}{t:RT (m+1)}(b:RT.ok (m+1) t)(c:d<16):gN (jT t d) e=if e=d then none else gN t e:=by
 obtain⟨ks,rfl⟩:∃ks:bA (bV (Nat×RT m)),ks=t:=⟨t,rfl⟩
 have hl:ks.length=16:=b.1;show(ks.set d none).getD e none=if e=d then none else ks.getD e none
 rw[dJ,hd,dJ];by_cases h:d=e;·rw[bK h,eK,bK h.symm];rfl
 ·rw[bJ h,bJ (λa=>h a.symm)]
def aIF{m d:Nat}{t:RT (m+1)}(a:RT.ok (m+1) t)(e:d<16):RT.ok (m+1) (jT t d):=by
 have hl:List.length (t:bA (bV (Nat×RT m)))=16:=a.1;refine⟨by show(List.set (t:bA (bV (Nat×RT m))) d none).length=16;exact dW.trans hl,λi b c h=>?_⟩;have h:gN (jT t d) i=some (b,c):=h;rw[On a e]at h;split at h;·cases h
 ·exact a.2 i b c h
def aIG{t:RT 0}{d:Nat}(a:RT.ok 0 t):RT.ok 0 (oO t d):=by
 show(List.set (t:bA (bV Nat)) d none).length=16;exact dW.trans a
def lW.leaf{p:Nat}{t:RT 0}(b:RT.ok 0 t):lW 0 t (oO t (p%16)) p:=by
 obtain⟨ws,rfl⟩:∃ws:bA (bV Nat),ws=t:=⟨t,rfl⟩
 have hl:ws.length=16:=b;intro q;show(ws.set (p%16) none).getD (q%16) none=if q%16^1=p%16^1 then none else ws.getD (q%16) none
 rw[Nat.pow_one,dJ,hd,dJ];have:=kM p (by decide:0<16);by_cases h:p%16=q%16;·rw[bK h,eK,bK h.symm];rfl
 ·rw[bJ h,bJ (λa=>h a.symm)]
def lW.up{m d b b0 p:Nat}{t:RT (m+1)}{s s':RT m}(g:RT.ok (m+1) t)(f:p/16^(m+1)%16=d)(hk:gN t d=some (b0,s))(h:lW m s s' p):lW (m+1) t (ha t d (b,s')) p:=by
 have c:d<16:=by omega
 intro q;rw[nE,nE,x7 g c];by_cases a:q/16^(m+1)%16=d
 ·rw[bK a];show RT.look m s' q=_;rw[h q];by_cases h2:q%16^(m+1)=p%16^(m+1);·rw[bK h2,bK (eH.2 ⟨bu,h2⟩)]
  ·rw[bJ h2,bJ (λe=>h2 (eH.1 e).2),a,hk]
 ·rw[bJ a,bJ (λe=>a (by rw[(eH.1 e).1];exact f))]
def lW.gone{m d b0 p:Nat}{t:RT (m+1)}{s s':RT m}(g:RT.ok (m+1) t)(f:p/16^(m+1)%16=d)(hk:gN t d=some (b0,s))(h:lW m s s' p)(c:∀q,RT.look m s' q=none):lW (m+1) t (jT t d) p:=by
 have b:d<16:=by omega
 intro q;rw[nE,nE,On g b];by_cases a:q/16^(m+1)%16=d
 ·rw[bK a];have h1:=h q;rw[c q]at h1;by_cases h2:q%16^(m+1)=p%16^(m+1);·rw[bK (eH.2 ⟨bu,h2⟩)]
  ·rw[bJ h2]at h1;rw[bJ (λe=>h2 (eH.1 e).2),a,hk];exact h1
 ·rw[bJ a,bJ (λe=>a (by rw[(eH.1 e).1];exact f))]
def aGX(l:bA Bool){d:Nat}(hl:l.length<=16):(BitVec.ofInt 16 (hasB l:Int) &&& ~~~ BitVec.ofInt 16 ((2^d:Nat):Int)).toNat=hasB (l.set d false):=by
 apply vW;intro i;rw[x8,wb,Nat.testBit_and,BitVec.testBit_toNat,BitVec.testBit_toNat,BitVec.getLsbD_not,pX,pX,BitVec.getLsbD_ofNat,BitVec.getLsbD_ofNat,x8,rG,dJ,dJ,hd];by_cases a:i<16
 ·by_cases h:d=i;·subst h;simp[a];split<;>simp
  ·simp[h,a]
 ·rw[dg a,gQ bu];simp;split;·split<;>simp
  ·rfl
def uW{l:bA Bool}{d:Nat}(hl:l.length=16)(a:d<16):wq .u16 (hasB l:Int) (IntKind.u16.wrap (1*2^(min (u64.wrap ((d:Nat):Int)).toNat 16)))=(hasB (l.set d false):Int):=by
 have h2:(2:Nat)^d<65536:=by
  have:(2:Nat)^d<=2^15:=tq bN bu;omega
 have e:IntKind.u16.wrap (1*2^(min (u64.wrap ((d:Nat):Int)).toNat 16))=((2^d:Nat):Int):=by
  rw[dq,dA,show min d 16=d by omega,Int.one_mul];have:((2:Int)^d)=((2^d:Nat):Int):=by rw[Int.natCast_pow];rfl
  rw[this];exact nD h2
 rw[e];show IntKind.u16.wrap ((BitVec.ofInt 16 (hasB l:Int) &&& ~~~ BitVec.ofInt 16 ((2^d:Nat):Int)).toNat:Int)=_;rw[aGX l bu];have:=oJ (l.set d false);rw[dW,hl]at this;exact nD this
def aI8{m d:Nat}{t:RT (m+1)}(e:RT.ok (m+1) t)(c:d<16):∃l:bA Bool,l.length=16/\(RT.vs (m+1) t)[32]?=some (.int .u16 (hasB l:Int))/\
  (((RT.vs (m+1) t).set d (.pointer none)).set (16+d) (.int .u64 0)).set 32 (.int .u16 (hasB (l.set d false):Int))=RT.vs (m+1) (jT t d):=by
 obtain⟨ks,rfl⟩:∃ks:bA (bV (Nat×RT m)),ks=t:=⟨t,rfl⟩
 have hl:ks.length=16:=e.1;refine⟨ks.map Option.isSome,by rw[ei];exact hl,oN (by rw[ei];exact hl) oa,?_⟩;show(((gq (ks.map (Option.map Prod.fst)) dz _).set d _).set (16+d) _).set 32 _=gq ((ks.set d none).map (Option.map Prod.fst)) dz (hasB ((ks.set d none).map Option.isSome));rw[hG,hG];rw[show Option.isSome (none:bV (Nat×RT m))=false from rfl];generalize hasB ((ks.map Option.isSome).set d false)=H;unfold gq mm m2;have a:((ks.map (Option.map Prod.fst)).map λk=>Value.pointer (k.map λb=>⟨b,0,none⟩)).length=16:=by simp[hl]
 rw[rF _ _ (by rw[a];exact c),hG];rw[jx (16+d) _ (by rw[dW,a];omega),dW,a,tp];rw[rF d _ (by simp[dz];omega)];have e0:(dz.map λx=>Value.int .u64 ((x.getD 0:Nat):Int)).set d (.int .u64 0)=dz.map λx=>Value.int .u64 ((x.getD 0:Nat):Int):=by
  rw[show(dz.map λx=>Value.int .u64 ((x.getD 0:Nat):Int))=List.replicate 16 (Value.int .u64 0) by simp[dz]];exact List.set_replicate_self
 rw[e0];rw[jx 32 _ (by rw[dW,a];decide),dW,a];rw[jx _ _ (by simp[dz])];congr 2
def aI9{d:Nat}{t:RT 0}(e:RT.ok 0 t)(c:d<16):∃l:bA Bool,l.length=16/\(RT.vs 0 t)[32]?=some (.int .u16 (hasB l:Int))/\
  ((RT.vs 0 t).set (16+d) (.int .u64 0)).set 32 (.int .u16 (hasB (l.set d false):Int))=RT.vs 0 (oO t d):=by
 obtain⟨ws,rfl⟩:∃ws:bA (bV Nat),ws=t:=⟨t,rfl⟩
 have hl:ws.length=16:=e;refine⟨ws.map Option.isSome,by rw[ei];exact hl,oN oa hl,?_⟩;show((gq dz ws _).set (16+d) _).set 32 _=gq dz (ws.set d none) (hasB ((ws.set d none).map Option.isSome));rw[hG];rw[show Option.isSome (none:bV Nat)=false from rfl];generalize hasB ((ws.map Option.isSome).set d false)=H;unfold gq mm m2;have a:(dz.map λk=>Value.pointer (k.map λb=>⟨b,0,none⟩)).length=16:=by simp[dz]
 rw[jx (16+d) _ (by rw[a];omega),a,tp,rF d _ (by rw[ei,hl];exact c)];rw[jx 32 _ (by rw[a];decide),a,jx _ _ (by rw[dW,ei,hl];decide),dW,ei,hl,hG];rfl
def Oo{m:Nat}{t:RT m}(a:RT.ok m t):(RT.vs m t).length=33:=by
 cases m with
 |zero=>
  obtain⟨ws,rfl⟩:∃ws:bA (bV Nat),ws=t:=⟨t,rfl⟩
  have hl:ws.length=16:=a;show(gq dz ws _).length=33;simp[gq,mm,m2,dz,hl]
 |succ m=>
  obtain⟨ks,rfl⟩:∃ks:bA (bV (Nat×RT m)),ks=t:=⟨t,rfl⟩
  have hl:ks.length=16:=a.1;show(gq (ks.map (Option.map Prod.fst)) dz _).length=33;simp[gq,mm,m2,dz,hl]
def Du:∀ {l:bA Bool},hasB l=0->∀i,l.getD i false=false
 |[],_,_=>by simp
 |b::r,h,i=>by
  simp only[hasB]at h;cases b with
  |true=>simp at h
  |false=>
   have:=Du (l:=r) (by simp at h;omega);cases i with
   |zero=>rfl
   |succ i=>exact this i
def aJ5{m:Nat}{t:RT m}(a:RT.ok m t):∃h:Nat,h<65536/\(RT.vs m t)[32]?=some (.int .u16 (h:Int))/\(h=0->∀q,RT.look m t q=none):=by
 cases m with
 |zero=>
  obtain⟨ws,rfl⟩:∃ws:bA (bV Nat),ws=t:=⟨t,rfl⟩
  have hl:ws.length=16:=a;have hb:=oJ (ws.map Option.isSome);rw[ei,hl]at hb;refine⟨hasB (ws.map Option.isSome),hb,oN oa hl,λh q=>?_⟩;have h1:=Du h (q%16);show ws.getD (q%16) none=none;rw[dJ,eC]at h1;rw[dJ];cases h2:ws[q%16]? with
  |none=>rfl
  |some y=>rw[h2]at h1;cases y with
   |none=>rfl
   |some z=>cases h1
 |succ m=>
  obtain⟨ks,rfl⟩:∃ks:bA (bV (Nat×RT m)),ks=t:=⟨t,rfl⟩
  have hl:ks.length=16:=a.1;have hb:=oJ (ks.map Option.isSome);rw[ei,hl]at hb;refine⟨hasB (ks.map Option.isSome),hb,oN (by rw[ei];exact hl) oa,λh q=>?_⟩;have h1:=Du h (q/16^(m+1)%16);refine(nE (show RT (m+1)from ks) q).trans ?_;have e:gN (show RT (m+1)from ks) (q/16^(m+1)%16)=ks.getD (q/16^(m+1)%16) none:=rfl;rw[dJ,eC]at h1;rw[e,dJ];cases h2:ks[q/16^(m+1)%16]? with
  |none=>rfl
  |some y=>rw[h2]at h1;cases y with
   |none=>rfl
   |some z=>cases h1
def aH1{m b d:Nat}{t:RT (m+1)}{w:bI}(e:RT.ok (m+1) t)(f:d<16)(h:Sep E (bC b (RT.vs (m+1) (jT t d))::(j8 m (t:bA (bV (Nat×RT m))) d++L)) w):Sep E (dI (m+1) b (jT t d)++L) w:=by
 obtain⟨ks,rfl⟩:∃ks:bA (bV (Nat×RT m)),ks=t:=⟨t,rfl⟩
 have hl:ks.length=16:=e.1;have hk:(ks.set d none)[d]?=some none:=jd bu;have a:(ks.set d none).take d=ks.take d:=by rw[S2 (ek d)]
 have c:(ks.set d none).drop (d+1)=ks.drop (d+1):=by rw[S3 bu]
 show Sep E (bC b (RT.vs (m+1) (jT ks d))::(List.flatMap (e2 m) (ks.set d none)++L)) w;rw[r9 hk,a,c];exact h
def Oq:∀(m:Nat) {b p:Nat} {t:RT m} {L:ct} {w:bI},m<=3->RT.ok m t->(RT.look m t p).isSome=true->Sep E (dI m b t++L) w->
  Calls P Ce #[Pb b,Iv (p:Nat),Iv ((3-m:Nat):Int)] w (cz λv w'=>v=.tuple #[]/\∃G:RT m,RT.ok m G/\lW m t G p/\Sep E (dI m b G++L) w')
 |0,b,p,t,L,w,_,c,_,h=>by
  apply Ob;unfold Dm qE qQ qb qg;refine use (sP (p:=p) (l:=3) bu w) ?_;rintro _ _ ⟨rfl,rfl⟩;have a:p%16<16:=kM _ bN;rw[show p/16^(3-3)%16=p%16 by rw[iV,zc,zj]];refine⟨_,rfl,λw'=>Sep E (dI 0 b t++L) w',bF rfl h,?_⟩;rintro _ A h1;have h1:Sep E (bC b (RT.vs 0 t)::L) A:=h1;have hlen:=Oo c;obtain⟨l,hl,u,x⟩:=aI9 c a;refine⟨_,rfl,_,rfl,⟨bu,bu⟩,?_⟩;rw[cf,cf,dA,show 0+16+p%16*1=16+p%16 by omega];refine St.i h1 (by rw[hlen];omega) (λw2 h2=>⟨_,rfl,?_⟩);have r:w2.cell? ⟨b,32,none⟩=some (.int .u16 (hasB l:Int)):=by rw[h2.cell 32,iE bu,u]
  refine⟨_,by rw[cf,fx];exact r,by rw[dq];omega,_,rfl,?_⟩;dsimp only;rw[cf,fx,uW hl a];refine St.i h2 (by rw[dW,hlen];omega) (λT k=>⟨rfl,oO t (p%16),aIG c,lW.leaf c,?_⟩);rw[x]at k;exact k
 |m+1,b,p,t,L,w,hm,c,hp,h=>by
  apply Ob;unfold Dm qE qQ qb qg;refine use (sP (p:=p) (l:=3-(m+1)) bu w) ?_;rintro _ _ ⟨rfl,rfl⟩;have M:3-(3-(m+1))=m+1:=by omega
  rw[M];obtain⟨d,z⟩:∃d,p/16^(m+1)%16=d:=⟨_,rfl⟩
  rw[z];have a:d<16:=by omega
  have o:=nE t p;rw[z]at o;cases hk:gN t d with
  |none=>rw[o,hk]at hp;cases hp
  |some y=>
  obtain⟨f,s⟩:=y;rw[hk]at o;rw[o]at hp;have K:=x6 c hk;have F:=uU c a;rw[hk]at F;have n:=Om c a h;rw[hk]at n;have hlen:=Oo c;obtain⟨l,hl,u,x⟩:=aI8 c a;refine⟨_,rfl,λw'=>∃s',lW m s s' p/\(∀q,RT.look m s' q=none)/\Sep E (bC b ((RT.vs (m+1) t).set d (.pointer none))::(j8 m (t:bA (bV (Nat×RT m))) d++L)) w',bT (by rw[gw];omega) ?_,?_⟩
  ·refine⟨_,rfl,_,rfl,⟨bu,bu⟩,?_⟩;rw[cf,cf,dA,show 0+0+d*1=d by omega];refine⟨some ⟨f,0,none⟩,by rw[n.cell d,F];rfl,?_⟩;have H:=n.perm (L':=dI m f s++(bC b (RT.vs (m+1) t)::(j8 m (t:bA (bV (Nat×RT m))) d++L))) jf.symm;have N:i64.wrap (((3-(m+1):Nat):Int)+1)=((3-m:Nat):Int):=by rw[dc];omega
   rw[N];refine use (Oq m (b:=f) (p:=p) (t:=s) bu K hp H) ?_;rintro _ A ⟨rfl,s',D,g,h1⟩;have B:Sep E (bC b (RT.vs (m+1) t)::(dI m f s'++(j8 m (t:bA (bV (Nat×RT m))) d++L))) A:=h1.perm jf;refine⟨rfl,_,rfl,_,rfl,⟨bu,bu⟩,?_⟩;rw[cf,cf,dA,show 0+0+d*1=d by omega];refine⟨some ⟨f,0,none⟩,by rw[B.cell d,F];rfl,_,rfl,?_⟩;obtain⟨W,U,I,J⟩:=aJ5 D;have r:=pF (j:=32) h1;rw[I]at r;refine⟨_,by rw[cf,fx];exact r,hJ (λV=>?_) (λhe=>?_)⟩
   ·refine⟨rfl,ha t d (f,s'),Ds c a D,lW.up c z hk g,Ol c a ?_⟩;have O:RT.vs (m+1) (ha t d (f,s'))=RT.vs (m+1) t:=by
     rw[Oh (s':=s)];have Q:ha t d (f,s)=t:=by
      obtain⟨ks,rfl⟩:∃ks:bA (bV (Nat×RT m)),ks=t:=⟨t,rfl⟩
      show ks.set d (some (f,s))=ks;have C:ks.getD d none=some (f,s):=hk;apply hg;intro i;rw[hd];split
      ·next e=>
       subst e;have S:ks.length=16:=c.1;rw[eK];rw[dJ,dP]at C;rw[dP];exact eJ some C.symm
      ·rfl
     rw[Q]
    rw[O];exact h1
   ·refine⟨_,rfl,_,rfl,⟨bu,bu⟩,?_⟩;rw[cf,cf,dA,show 0+0+d*1=d by omega];refine St.i B (by rw[hlen];omega) (λw2 h2=>⟨s',g,J bu,?_⟩);have k:=h2.perm (L':=dI m f s'++(bC b ((RT.vs (m+1) t).set d (.pointer none))::(j8 m (t:bA (bV (Nat×RT m))) d++L))) jf.symm;exact(k.perm l1).left
  ·rintro _ A ⟨s',g,R,h1⟩;refine⟨_,rfl,_,rfl,⟨bu,bu⟩,?_⟩;rw[cf,cf,dA,show 0+16+d*1=16+d by omega];refine St.i h1 (by rw[dW,hlen];omega) (λw2 h2=>⟨_,rfl,?_⟩);have r:w2.cell? ⟨b,32,none⟩=some (.int .u16 (hasB l:Int)):=by rw[h2.cell 32,iE bu,iE bu,u]
   refine⟨_,by rw[cf,fx];exact r,by rw[dq];omega,_,rfl,?_⟩;dsimp only;rw[cf,fx,uW hl a];refine St.i h2 (by rw[dW,dW,hlen];omega) (λT k=>⟨rfl,jT t d,aIF c a,lW.gone c z hk g R,?_⟩);rw[x]at k;exact aH1 c a k
def aIz{t p:Nat}{T:RT 3}(a:RT.ok 3 T)(hp:p<65536)(f:(RT.look 3 T p).isSome=true)(h:Sep E (dI 3 t T++L) w):Calls P BJ #[Pb t,Iv (p:Nat)] w
  (cz λv w'=>v=.bool true/\∃T':RT 3,RT.ok 3 T'/\lW 3 T T' p/\Sep E (dI 3 t T'++L) w'):=by
 apply ZR;unfold ND qE zh;refine use (Dq a h) ?_;rintro _ k ⟨rfl,h1⟩;have e:iq T (p:Int)=RT.look 3 T p:=by unfold iq;rw[eK,dA]
 have c:(!(iq T (p:Int)).isSome)=false:=by rw[e,f];rfl
 generalize iq T (p:Int)=g at c;refine⟨_,_,rfl,bF c ⟨_,rfl,?_⟩⟩;dsimp only;rw[cf];have d:=Oq 3 (b:=t) (p:=p) (t:=T) bu a f h1;have e0:((3-3:Nat):Int)=0:=rfl;rw[e0]at d;refine use d ?_;rintro _ w2 ⟨rfl,T',h2,i,j⟩;exact⟨rfl,rfl,T',h2,i,j⟩
end Go.Mp
namespace Go.Kt
open Go
def G.vs(g:G):bA bE:=[Iv g.up,.bool g.live]
def G.kS(g:G):g.vs.length=2:=rfl
end Go.Kt
namespace Go.Mp
open Go Go.Vc Go.Sp Go.Proofs Go.Kt
variable{E:Env}{L:ct}{w W:bI}
def dT(b:Nat)(l:bA G):Asn:=fa λs:Sl=>cG (s.n=l.length) (star (bC b [Sv s]) (bw s 2 (bQ G.vs l)))
def dT.get{b:Nat}{l:bA G}(h:Sep E (dT b l::L) w):∃s:Sl,s.n=l.length/\Sep E (bC b [Sv s]::bw s 2 (bQ G.vs l)::L) w:=by
 obtain⟨s,h⟩:=Sep.ex.1 h;obtain⟨hn,h⟩:=Sep.cG.1 h;exact⟨s,hn,Sep.star.1 h⟩
def dT.mk{b:Nat}{l:bA G}{s:Sl}(hn:s.n=l.length)(h:Sep E (bC b [Sv s]::bw s 2 (bQ G.vs l)::L) w):Sep E (dT b l::L) w:=
 Sep.ex.2 ⟨s,Sep.cG.2 ⟨hn,Sep.star.2 h⟩⟩
def sQ{s:Sl}{l:bA G}{i:Int}{f:Addr->Prop}(q:Nat)(h:Sep E L w)(e:L[q]?=some (bw s 2 (bQ G.vs l)))(hn:s.n=l.length){k:Nat}(d:i=k){x:G}(hx:l[k]?=some x)(g:∀b,s.p=some ⟨b,0,none⟩->(∀j,j<2->w.cell? ⟨b,k*2+j,none⟩=(x.vs)[j]?)->f ⟨b,k*2,none⟩):cK s.p s.n i 2 f:=by
 have m:=(cZ.1 hx).1;subst d;refine bw.el q h e bu bu (λb hp a=>?_);rw[dA]at a ⊢;exact g b hp (λj c=>by rw[a j c,sG G.kS hx j c])
def kC{b:Nat}{l:bA G}{g:Int}{q:Nat}(h:Sep E L w)(d:L[q]?=some (dT b l)):Calls P kb #[Pb b,Iv g] w (cz λv w'=>v=.bool (ds l g)/\w'=w):=by
 apply VC;unfold Kp qK qW qy;obtain⟨s,hn,h1⟩:=dT.get (h.fr q d);refine h6 (λa=>?_) (λa=>?_)
 ·refine⟨_,rfl,s,h1.cell 0,?_⟩;refine cU (λf=>?_) (λe=>?_)
  ·obtain⟨n,rfl⟩:∃n:Nat,g=n:=⟨g.toNat,bu⟩
   obtain⟨x,hx⟩:∃x,l[n]?=some x:=⟨_,dP⟩
   refine⟨_,rfl,s,h1.cell 0,sQ 1 h1 rfl hn rfl hx (λi _ c=>⟨x.live,?_,?_,rfl⟩)⟩;·rw[cf];exact c 1 bN
   ·unfold ds;rw[dA,hx,dF bu];rfl
  ·refine⟨?_,rfl⟩;unfold ds;rw[gQ bu];simp
 ·refine⟨?_,rfl⟩;unfold ds;rw[dg bu];rfl
def aGv{b:Nat}{l:bA G}{g:Int}{q:Nat}(h:Sep E L w)(c:L[q]?=some (dT b l)):Calls P Iz #[Pb b,Iv g] w (cz λv w'=>v=Iv (pa l g)/\w'=w):=by
 apply VZ;unfold KE qF qK qL qW;refine use (kC h c) ?_;rintro _ i ⟨rfl,rfl⟩;refine⟨_,rfl,cv (λa=>⟨?_,rfl⟩) (λa=>?_)⟩
 ·have:ds l g=false:=by simpa using a
  unfold pa;rw[this];rfl
 ·have hl:ds l g=true:=by simpa using a
  obtain⟨n,rfl,x,hx,e⟩:=iW.1 hl;obtain⟨s,hn,h1⟩:=dT.get (h.fr q c);refine⟨_,rfl,s,h1.cell 0,sQ 1 h1 rfl hn rfl hx (λf _ d=>⟨x.up,?_,?_,rfl⟩)⟩;·rw[cf];exact d 0 bN
  ·unfold pa;rw[bK hl,dA,hx];rfl
def Ot{l:bA G}{g:Nat}(hl:ds l g=true):dk l g=(chain l g).map Int.ofNat:=by unfold dk;rw[bK hl,dA]
def Ou{b d c:Nat}{l:bA G}{g:Int}(hw:WF l):Db P E sm #[Pb d,Pb c]
  (star (bC d [Pb b]) (star (bC c [Iv g]) (dT b l))) (star (bC d [Pb b]) (star (fa λx:Int=>bC c [Iv x]) (dT b l))) ((dk l g).map (Value.int .i64)):=by
 intro U J X M L W h;refine Calls.mono (R:=cz λv i=>v=.tuple #[]/\(Sep E (J ((dk l g).map (Value.int .i64)).length::star (bC d [Pb b]) (star (fa λx:Int=>bC c [Iv x]) (dT b l))::L) i\/
  ∃k,k<((dk l g).map (Value.int .i64)).length/\Sep E (X k::star (bC d [Pb b]) (star (fa λx:Int=>bC c [Iv x]) (dT b l))::L) i)) ?_ (λe i he=>?_)
 rotate_left
 ·obtain⟨v,rfl,rfl,he⟩:=he;exact⟨⟨_,rfl⟩,he⟩
 have pack:∀ {A:Asn} {x:Int} {i:bI},Sep E (A::bC d [Pb b]::bC c [Iv x]::dT b l::L) i->
   Sep E (A::star (bC d [Pb b]) (star (fa λx:Int=>bC c [Iv x]) (dT b l))::L) i:=by
  intro A x i t;have h1:Sep E (fa (λx:Int=>bC c [Iv x])::dT b l::A::bC d [Pb b]::L) i:=Sep.ex.2 ⟨x,t.ro 4 [2,3,0,1] rfl⟩;have h2:=(Sep.star.2 h1).ro 3 [2,0,1] rfl;exact(Sep.star.2 h2).swap
 have h1:Sep E (bC d [Pb b]::bC c [Iv g]::dT b l::J 0::L) W:=by
  have h2:=Sep.star.1 h.swap;have p:=(Sep.star.1 (h2.swap))
  exact p.ro 4 [2,0,1,3] rfl
 show Calls P sm #[.func (.yield U) #[] #[],Pb d,Pb c] W _;apply VW;unfold CU qD qF qK qL qW qb qd;refine⟨_,h1.cell 0,_,h1.cellAt 1 rfl 0,?_⟩;refine use (kC (q:=2) h1 rfl) ?_;rintro _ af ⟨rfl,rfl⟩;refine⟨_,rfl,?_⟩;rw[ei];cases hl:ds l g with
 |false=>
  refine⟨λw'=>w'=af,λ_=>0,rfl,?_⟩;rintro _ w2 rfl;refine dH ⟨rfl,.inl ?_⟩;have:dk l g= []:=by unfold dk;rw[hl];rfl
  rw[this];exact pack (h1.ro 4 [3,0,1,2] rfl)
 |true=>
  obtain⟨n,rfl,x,hx,ah⟩:=iW.1 hl;have Q:=(cZ.1 hx).1;rw[Ot hl];rw[ei];rw[Ot hl]at M;refine⟨λw'=>∃(k:Nat) (x:Int),((x= -1/\k=(chain l n).length)\/∃m:Nat,x=m/\m<l.length/\(chain l n).drop k=chain l m)/\Sep E (bC d [Pb b]::bC c [Iv x]::dT b l::J k::L) w',
   λw'=>match w'.cell? ⟨c,0,none⟩with|some (.int _ x)=>(x+1).toNat|_=>0,⟨0,n,.inr ⟨n,rfl,Q,rfl⟩,h1⟩,?_⟩
  rintro _ w2 ⟨k,x,T,h2⟩;refine eA ⟨x,h2.cellAt 1 rfl 0,?_⟩;rcases T with⟨rfl,rfl⟩|⟨m,rfl,hm,C⟩
  ·refine hs (λt=>absurd t bN) (λ_=>⟨rfl,.inl (pack (h2.ro 4 [3,0,1,2] rfl))⟩)
  ·refine hs (λ_=>?_) (λt=>absurd t bu);refine⟨_,h2.cellAt 1 rfl 0,U,rfl,?_⟩;obtain⟨r,hr⟩:=Gs l m;have hk:(chain l n)[k]?=some m:=by
    have:((chain l n).drop k)[0]?=some m:=by rw[C,hr];rfl
    rwa[pY,lK]at this
   have O:(((chain l n).map Int.ofNat).map (Value.int .i64))[k]?=some (Iv (m:Int)):=by
    rw[eC,eC,hk];rfl
   obtain⟨fn,tmps,I,body,F,u⟩:=M _ k _ _ O (h2.ro 4 [3,0,1,2] rfl);refine⟨fn,tmps,I,body,F,u.mono λe ag he=>?_⟩;rcases he with⟨rfl,p⟩|⟨rfl,p⟩
   ·refine⟨true,rfl,dH ?_⟩;have p:Sep E (bC d [Pb b]::bC c [Iv (m:Int)]::dT b l::J (k+1)::L) ag:=p.ro 4 [1,2,3,0] rfl;refine Dr.i p (λw z=>?_);obtain⟨s,hn,K⟩:=dT.get (z.fr 2 rfl);obtain⟨y,o⟩:∃y,l[m]?=some y:=⟨_,dO hm⟩
    have fin:∀ {w':bI},w'=w->St ⟨c,0,none⟩ (Iv y.up) (λD=>(([]:bA Nat)= []/\((∃(k:Nat) (x:Int),((x= -1/\k=(chain l n).length)\/∃m:Nat,x=m/\m<l.length/\(chain l n).drop k=chain l m)/\Sep E (bC d [Pb b]::bC c [Iv x]::dT b l::J k::L) D)/\
      (match D.cell? ⟨c,0,none⟩with|some (.int _ x)=>(x+1).toNat|_=>0)<(match w2.cell? ⟨c,0,none⟩with|some (.int _ x)=>(x+1).toNat|_=>0)))) w':=by
     rintro _ rfl;refine St.i (z.fr 1 rfl) (by show 0<1;decide) (λV B=>?_);have B:Sep E (bC c [Iv y.up]::bC d [Pb b]::dT b l::J (k+1)::L) V:=B;have Z:V.cell? ⟨c,0,none⟩=some (Iv y.up):=B.cell 0;have aa:w2.cell? ⟨c,0,none⟩=some (Iv (m:Int)):=h2.cellAt 1 rfl 0;rw[Z,aa];have N:(chain l n).drop (k+1)=r:=by rw[<- p1,C,hr];rfl
     refine⟨rfl,⟨k+1,y.up,?_,B.swap⟩,?_⟩
     ·rcases k2 m with j|j
      ·subst j;rw[hw.root]at o;have:=cR o;subst this;rw[tJ]at hr C;refine .inl ⟨rfl,?_⟩;have:=eJ List.length C;rw[nR]at this;simp at this;omega
      ·have hu:=hw.up m y o j;have S:=rL hw o j;refine .inr ⟨y.up.toNat,bu,bu,?_⟩;rw[N];rw[hr]at S;exact(List.cons.inj S).2
     ·rcases k2 m with j|j
      ·subst j;rw[hw.root]at o;have:=cR o;subst this;decide
      ·have hu:=hw.up m y o j;show(y.up+1).toNat<((m:Int)+1).toNat;omega
    have H:w.cell? ⟨d,0,none⟩=some (Pb b):=z.cell 0;have a3:w.cell? ⟨c,0,none⟩=some (Iv (m:Int)):=z.cellAt 1 rfl 0;have Y:w.cell? (Addr.add ⟨b,0,none⟩ 0)=some (Sv s):=by rw[cf];exact K.cell 0
    have el:∀ {f:Addr->Prop},(∀a,w.cell? (a.add 0)=some (Iv y.up)->f a)->cK s.p s.n (m:Int) 2 f:=λae=>sQ 1 K rfl hn rfl o (λai _ ad=>ae _ (by rw[cf];exact ad 0 bN));repeat' first
     |exact trivial
     |exact fin rfl
     |exact⟨_,H,?_⟩
     |refine⟨_,H,?_⟩
     |refine⟨_,a3,?_⟩
     |refine⟨s,Y,?_⟩
     |refine⟨_,rfl,?_⟩
     |refine el (λa ab=>?_)
     |refine⟨_,ab,?_⟩
     |refine And.intro ?_ ?_
   ·refine⟨false,rfl,eA ⟨rfl,.inr ⟨k,?_,?_⟩⟩⟩;·exact(cZ.1 hk).1
    ·exact pack p
end Go.Mp
