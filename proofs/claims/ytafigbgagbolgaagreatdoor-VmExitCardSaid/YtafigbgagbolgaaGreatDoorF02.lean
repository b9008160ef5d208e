/- A part of the proof. -/
import Derived.Test.YtafigbgagbolgaaGreatDoorF01
import Derived.Lib.TrailingZeros
import Derived.ProofKit
import Derived.OpenVars
import Derived.Shelf.SlIterI.Nil
import Derived.Shelf.SortM.Plain
import Derived.Shelf.SortM.SortNone
set_option linter.all false
set_option maxRecDepth 100000
open Go.IntKind(i64 u64)
open Go.Proofs.Tryz
namespace Go.Mp
open Go Go.Vc Go.Proofs
variable{K:bg1}{w:bH}
variable(K w)
def Ll(a:Sl)(x:Int):=
 qp Cq #[Sv a] w λj s e=>qg (λk=>dX s (K (.tuple #[aN8,Iv 1]) e) (ed j 64 (0<=(u64.wrap j)/\cond ((x.fdiv (2^(min (u64.wrap j).toNat 64))) !=0) (K (.tuple #[aN8,Iv 1]) e) (k e)) (k e))) λr=>zV x ⟨none,0,0⟩ 0 r λq h f c b=>fB c a.n (qW a c 1 λl=>qD b l λd=>zU Cr #[Iv d] b λp n=>qC #[Iv (i64.wrap (bU .u64 h p))] n λm o=>∃i:Sl,∃g:bH,Sem.run P (Builtin.append_ #[22,22] 22 #[Sv f,.slice (some m) 1 1]) o=.ok (Sv i) g/\0<=(u64.wrap d)/\(q (h.fdiv (2^(min (u64.wrap d).toNat 64))) i (i64.wrap (c+1)) g)) (K (.tuple #[Sv f,Iv 0]) b)
def CZ(t:ch)(g:Int):=
 qC #[Iv 0] w λa w2=>St a (Iv (-1)) (λe=>qN Bz #[Pv t,Iv g] e λd f=>iy P 13 d #[9] (j6 f169.body) (j7 f169.body) .ret (((((((jg [Pv t,Iv g] 0 .nil).put (some 4) (Iv 0)).put (some 5) (Pv (some a))).put (some 6) (Pv t)).put (some 7) (Iv g)).put (some 8) d)) f (λb7 b=>qD b a λh=>b.heap[b7]?=some (.deferred (some []))/\K (Iv h) (b.putObj b7 (.deferred none))) (λb8 c=>c.heap[b8]?=some (.deferred (some []))/\K (Iv 0) (c.putObj b8 (.deferred none)))) w2
def Lm(t:ch)(g:Int):=
 Al (.cells #[Pv t] 62) (λa w2=>qC #[Iv g] w2 λd b=>qb b a λi=>qD b d λj=>qF j8 #[Pv i,Iv j] b λk c=>dX k (K (aN8) c) (qb c a λf=>qJ Ca #[Pv f,(.func (.func Ct) #[] #[Pv (some a),Pv (some d)])] c λh e=>K (Sv h) e)) w
def Ln(s:Sl)(del:bE):=
 qQ Cu #[Sv s,del] w λg l=>cond (g==(-1)) (K (Sv s) l) (qI g (i64.wrap (g+1)) l λh i8 a f=>fB a s.n (qW s a 1 λi=>qD f i λd=>eY P del #[Iv d] f λk b=>∃e,k=.returned (.bool e)/\dX e (qW s i8 1 λj=>St j (Iv d) (λm=>(h (i64.wrap (i8+1)) (i64.wrap (a+1)) m)) b) ((h i8 (i64.wrap (a+1)) b))) (((0:Int)<=i8/\i8<=((s.n:Nat):Int))/\∃c:bH,Sem.run P (Builtin.clear_ #[22] 0 #[.slice (gj s.p i8.toNat s.c 1) (s.n-i8.toNat) (s.c-i8.toNat)]) f=.ok (.tuple #[]) c/\((0:Int)<=i8/\i8<=((s.c:Nat):Int))/\K (.slice (gj s.p 0 s.c 1) (i8.toNat-0) (s.c-0)) c))
def Lo(id:Int)(c b:Addr):=
 Dr (λa=>qb a c λf=>NN f λa3=>qM a a3 0 λg=>∃d:ch,gr P 117 (.map g) (Iv id) false a (Pv d)/\NN d λe=>qL a e 4 λh=>qD a b λi=>K (.bool (h !=i)) a) w
def C0(t:ch)(id:Int)(jO:bE):=
 NN t λb=>qM w b 0 λe=>∃a:ch,gr P 117 (.map e) (Iv id) false w (Pv a)/\cond a.isNone (K (Iv 2) w) (eY P jO #[Pv a] w λc d=>c=.returned (.tuple #[])/\K (Iv 0) d)
def Lp(p:ch)(a:Addr):=
 qD w a λd=>NN p λb=>St (b.add 4) (Iv d) (λc=>K aN4 c) w
def Lq(l:ch)(group:Int)(change:bE):=
 NN l λQ=>qM w Q 0 λR=>∃e:ch,∃B:bH,Sem.run P (Instr.range 140 (.map R)) w=.ok (Pv e) B/\qO 0 B λt n9 C=>(∃k:bH,Sem.run P (Instr.next (Pv e) false 0) C=.ok (.tuple #[.bool false]) k/\K (Iv n9) k)\/(∃v:bE,∃x:bE,∃m:bH,Sem.run P (Instr.next (Pv e) false 0) C=.ok (.tuple #[.bool true,v,x]) m/\∃g:Int,∃i:Int,∃j:Int,∃n:bH,Sem.run P (Instr.entry (Pv e)) m=.ok (.tuple #[Iv g,.agg #[Iv i,Iv j]]) n/\qw n λb y=>qU [Iv i,Iv j] b y λo=>zZ o b λD E=>eY P change #[.agg #[Iv D,Iv E]] o λu z=>∃r:Int,∃s:Int,u=.returned (.agg #[Iv r,Iv s])/\qw z λc A=>qU [Iv r,Iv s] c A λa=>qh (λf=>qL a b 0 λG=>cond (G==group) (zZ a b λH I=>zZ a c λJ L=>∃h:Bool,kh P .neq 239 (.agg #[Iv H,Iv I]) (.agg #[Iv J,Iv L]) h/\f h a) (f false a)) λF p=>cond F (Dr (λd=>NN l λa41=>qM d a41 0 λM=>zZ d c λN O=>∃q:bH,Sem.run P (Instr.mapUpdate 140 (.map M) (Iv g) (.agg #[Iv N,Iv O])) d=.ok () q/\(t (i64.wrap (n9+1)) q)) p) ((t n9 p)))
def Lr(e f:Int)(b:Addr):=
 Al (.cells #[Iv e,Iv f] 239) (λg w2=>qw w2 λc a=>qD a b λj=>qL a g 1 λk=>qU [Iv j,Iv k] c a λd=>zZ d c λh i=>K (.agg #[Iv h,Iv i]) d) w
def Ls(chain:Sl)(n:Int):=
 zK w λg w2=>qO 0 w2 λm c b=>fB c chain.n (qW chain c 1 λo=>qD b o λd=>qF xz #[Iv d] b λj a=>dX j (K aN2 a) (cM (some g) 64 d 1 λe=>qm a e λk=>cond k (K aN2 a) (cM (some g) 64 d 1 λf=>St f (.bool true) (λh=>(m (i64.wrap (c+1)) h)) a))) (qF B9 #[Iv n] b λl i=>K (.bool l) i)
def Lt(c:ch)(chain:Sl)(is:bE):=
 qO 0 w λl e a=>fB e chain.n (qW chain e 1 λm=>qD a m λk=>NN c λn=>cM (some (n.add 0)) 64 k 4 λa9=>qA a a9 λg h i j=>eY P is #[.agg #[Iv g,Iv h,Iv i,Iv j]] a λf b=>∃d,f=.returned (.bool d)/\cond d (K (Iv k) b) ((l (i64.wrap (e+1)) b))) (K (Iv (-1)) a)
def Lu(b c d e:Int)(a:Addr):=
 Al (.cells #[Iv b,Iv c,Iv d,Iv e] 107) (λf w2=>qL w2 f 0 λg=>qD w2 a λh=>K (.bool (decide (g<h))) w2) w
def Lv(n:Int):=
 cond (decide ((0:Int)<=n)) (K (.bool (decide (n<=1099511627776))) w) (K aN2 w)
def Lw(t:ch)(is:bE):=
 NN t λs=>qK w s 0 λu=>qf ⟨none,0,0⟩ 0 w λh g a b=>fB a u.n (qh (λi=>NN t λj=>qK b j 0 λq=>qW q a 2 λk=>qy b k 1 λr=>cond r (eY P is #[Iv a] b λl n=>∃e,l=.returned (.bool e)/\i e n) (i false b)) λp c=>cond p (qC #[Iv a] c λm o=>∃f:Sl,∃d:bH,Sem.run P (Builtin.append_ #[22,22] 22 #[Sv g,.slice (some m) 1 1]) o=.ok (Sv f) d/\(h f (i64.wrap (a+1)) d)) ((h g (i64.wrap (a+1)) c))) (K (Sv g) b)
def Lx(x:Int)(c a:Addr):=
 Dr (λb=>qb b c λh=>qD b a λf=>qJ q7 #[Pv h,Iv x] b λi d=>zG d a (Iv f) λj=>qF py #[Sv i,Iv f] d λe g=>K (.bool e) g) w
def x1(s:Sl)(v:Int):=
 qQ uP #[Sv s,Iv v] w λb a=>K (.bool (decide (b≥0))) a
def Ly(d e:Int):=
 Al (.cells #[Iv d,Iv e] 239) (λf w2=>qw w2 λa b=>zZ b f λi j=>qU [Iv i,Iv (min1 (i64.wrap (j+1)) 3)] a b λc=>zZ c a λg h=>K (.agg #[Iv g,Iv h]) c) w
def Lz(l:Sl)(target:Int):=
 qg (λar=>qF Cv #[Sv l] w λau o=>dX au (K (aN8) o) (ed target 0 (K (aN8) o) (cond (decide (target≥((l.n:Nat):Int))) (K (aN8) o) (ar o)))) λw2=>∃p:Sl,∃N:bH,Sem.run P (Instr.makeSlice 22 (Iv ((l.n:Nat):Int)) (Iv ((l.n:Nat):Int))) w2=.ok (Sv p) N/\((0:Int)<=1/\1<=((l.n:Nat):Int))/\qO 0 N λaq m i=>cond (decide (m<(((l.n-(1:Int).toNat):Nat):Int))) (cM (gj l.p ((1:Int).toNat) l.c 3) (l.n-(1:Int).toNat) m 3 λA=>ql i A λR S T=>qi i λf H=>qU [Iv R,Iv S,Iv T] f H λI=>Dr (λg=>qL g f 0 λn=>qW p n 1 λa23=>qD g a23 λx=>ql g f λU V W=>qQ Cw #[.agg #[Iv U,Iv V,Iv W]] g λX j=>zG j a23 (Iv x) λav=>zH j f 0 (Iv n) λaw=>qW p n 1 λa33=>St a33 (Iv (i64.wrap (x+X))) (λJ=>(aq (i64.wrap (m+1)) J)) j) I) (∃c:Sl,∃r:bH,Sem.run P (Instr.makeSlice 22 (Iv ((l.n:Nat):Int)) (Iv ((l.n:Nat):Int))) i=.ok (Sv c) r/\qO 0 r λe a k=>fB a l.n (qW l a 3 λB=>ql k B λY Z aa=>qi k λd L=>qU [Iv Y,Iv Z,Iv aa] d L λs=>qg (λz=>cond (a==target) ((e (i64.wrap (a+1)) s)) (qF xO #[Sv l,Iv a,Iv target] s λab u=>dX ab ((e (i64.wrap (a+1)) u)) (z u))) λt=>ql t d λad ae af=>qQ Cw #[.agg #[Iv ad,Iv ae,Iv af]] t λag M=>qW c a 1 λC=>St C (Iv ag) (λb=>qL b d 0 λah=>qW p ah 1 λa64=>qD b a64 λy=>qh (λq=>qL b d 0 λaj=>cond (aj !=target) (qL b d 0 λak=>qW c ak 1 λD=>qD b D λal=>q (decide (y>al)) b) (q false b)) λai v=>cond ai (Dr (λh=>qW c a 1 λE=>qD h E λam=>qL h d 0 λan=>qW c an 1 λF=>qD h F λao=>qQ Jf #[Iv am,Iv ao,Iv y] h λap O=>qW c a 1 λG=>St G (Iv ap) (λQ=>(e (i64.wrap (a+1)) Q)) O) v) ((e (i64.wrap (a+1)) v))) M) (K (Sv c) k))
def C2(l dU:Sl)(target g:Int):=
 Al (.cells #[Sv l] 245) (λi w2=>Al (.cells #[Sv dU] 22) (λy H=>Al (.cells #[.bool false] 4) (λa x=>qc x i λF=>qc x y λG=>qF Jg #[Sv F,Sv G,Iv target] x λc e=>dX c (St a (.bool false) (λp=>qm p a λz=>K (.bool z) p) e) (ed g 0 (St a (.bool false) (λq=>qm q a λA=>K (.bool A) q) e) (qc e i λb=>cond (decide (g≥((b.n:Nat):Int))) (St a (.bool false) (λr=>qm r a λB=>K (.bool B) r) e) (qc e i λt=>qF xO #[Sv t,Iv g,Iv target] e λd j=>dX d (St a (.bool false) (λs=>qm s a λC=>K (.bool C) s) j) (qc j i λu=>qN Cx #[Sv u,Iv g,Iv target] j λv D=>iy P 47 v #[36] (j6 f186.body) (j7 f186.body) .ret ((((((((((((((((((((((((((((((((((jg [Sv l,Sv dU,Iv target,Iv g] 0 .nil).put (some 4) (Pv (some i))).put (some 5) (Pv (some y))).put (some 8) (Pv (some a))).put (some 10) (Sv F)).put (some 11) (Sv G)).put (some 12) (Iv target)).put (some 13) (.bool c)).put (some 14) (.bool (!c))).put (some 15) (.bool (!c))).put (some 15) (.bool false)).put (some 16) (Iv g)).put (some 17) (.bool (decide (g<0)))).put (some 18) (.bool (decide (g<0)))).put (some 19) (.bool (decide (g<0)))).put (some 19) (.bool false)).put (some 20) (Iv g)).put (some 21) (Sv b)).put (some 22) (Iv ((b.n:Nat):Int))).put (some 23) (.bool (decide (g≥((b.n:Nat):Int))))).put (some 24) (.bool (decide (g≥((b.n:Nat):Int))))).put (some 25) (.bool (decide (g≥((b.n:Nat):Int))))).put (some 25) (.bool false)).put (some 26) (Sv t)).put (some 27) (Iv g)).put (some 28) (Iv target)).put (some 29) (.bool d)).put (some 30) (.bool (!d))).put (some 31) (.bool (!d))).put (some 32) (Sv u)).put (some 33) (Iv g)).put (some 34) (Iv target)).put (some 35) v)) D (λf E=>St a (.bool false) (λm=>m.heap[f]?=some (.deferred (some []))/\∃n:Bool,(m.putObj f (.deferred none)).cell? a=some (.bool n)/\K (.bool n) (m.putObj f (.deferred none))) E) (λh k=>k.heap[h]?=some (.deferred (some []))/\∃o:Bool,(k.putObj h (.deferred none)).cell? a=some (.bool o)/\K (.bool o) (k.putObj h (.deferred none)))))))) H) w2) w
def LA(n:Int)(weights:Sl):=
 cond (decide ((0:Int)<=n)) (cond (decide (n<=1048576)) (cond (decide (((weights.n:Nat):Int)<=64)) (qF Vr #[Sv weights,(.func (.func Cy) #[] #[])] w λb a=>K (.bool (!b)) a) (K aN2 w)) (K aN2 w)) (K aN2 w)
def LB(l:Sl):=
 qI 0 0 w λc n5 b a=>fB b l.n (qW l b 1 λd=>qD a d λe=>(c (i64.wrap (n5+e)) (i64.wrap (b+1)) a)) (K (Iv n5) a)
def LC(n:Int)(weights:Sl):=
 qF Cd #[Iv n,Sv weights] w λQ t=>dX Q (K (aN8) t) (∃d:Sl,∃z:bH,Sem.run P (Instr.makeSlice 22 (Iv ((weights.n:Nat):Int)) (Iv ((weights.n:Nat):Int))) t=.ok (Sv d) z/\qQ uN #[Sv weights] z λN C=>cond (N==0) (K (Sv d) C) (zT ⟨none,0,0⟩ n 0 C λO a b c e=>fB c weights.n (qW weights c 1 λp=>qD e p λD=>zN xP #[.int .u64 (u64.wrap n),.int .u64 (u64.wrap D)] e λE F u=>zN uQ #[.int .u64 E,.int .u64 F,.int .u64 (u64.wrap N)] u λG H v=>qW d c 1 λa26=>St a26 (Iv (i64.wrap G)) (λj=>qW d c 1 λa28=>qD j a28 λI=>Al (.cells #[Iv c,.int .u64 H] 302) (λs x=>∃l:Sl,∃k:bH,Sem.run P (Builtin.append_ #[297,297] 297 #[Sv a,.slice (some s) 1 1]) x=.ok (Sv l) k/\(O l (i64.wrap (b-I)) (i64.wrap (c+1)) k)) j) v) (qE Jh #[Sv a,(.func (.func Cz) #[] #[])] e λy=>((0:Int)<=b/\b<=((a.c:Nat):Int))/\qO 0 y λo h f=>cond (decide (h<(((b.toNat-0):Nat):Int))) (cM (gj a.p 0 a.c 2) (b.toNat-0) h 2 λa41=>zM f a41 λJ L=>Al (.cells #[Iv 0,.int .u64 0] 302) (λi A=>qU [Iv J,.int .u64 L] i A λg=>qL g i 0 λm=>qW d m 1 λq=>qD g q λM=>qW d m 1 λr=>St r (Iv (i64.wrap (M+1))) (λB=>(o (i64.wrap (h+1)) B)) g) f) (K (Sv d) f))))
def LD(l:ch)(a:Sl):=
 Al (.cells #[Pv l] 78) (λc w2=>Al (.cells #[Sv a] 22) (λk d=>qb d c λn=>NN n λj=>qM d j 0 λo=>qN CA #[.map o] d λh m=>qJ xw #[h] m λi e=>qJ B3 #[Sv i,(.func (.func Jj) #[] #[Pv (some k),Pv (some c)])] e λb f=>qE Jk #[Sv b,(.func (.func Jl) #[] #[Pv (some c)])] f λg=>K (Sv b) g) w2) w
def LF(held:bE)(k a:Addr):=
 qc w k λo=>qO 0 w λi d c=>fB d o.n (qW o d 1 λE=>qD c E λD=>qb c a λF=>NN F λj=>qZ c j 10 λp=>qX px #[Pv p,Iv D] c λq r s t u v x y z G m=>qV m λe n=>qU [Iv q,Iv r,Iv s,Iv t,Iv u,Iv v,Iv x,.bool y,.bool z] e n λf=>qL f e 4 λA=>eY P held #[Iv A] f λl b=>∃h,l=.returned (.bool h)/\dX h (qb b a λB=>qF I5 #[Pv B,Iv D] b λC g=>cond C (K aN3 g) ((i (i64.wrap (d+1)) g))) ((i (i64.wrap (d+1)) b))) (K aN2 c)
def LG(c:ch)(id:Int):=
 NN c λal=>qZ w al 10 λan=>qX px #[Pv an,Iv id] w λao ap aq ar au z A B C av am=>qV am λa t=>qU [Iv ao,Iv ap,Iv aq,Iv ar,Iv au,Iv z,Iv A,.bool B,.bool C] a t λu=>Dr (λe=>NN c λp=>qZ e p 0 λD=>qL e a 4 λE=>qJ q7 #[Pv D,Iv E] e λn b=>qg (λg=>qL b (a.add 0) 0 λF=>cond (decide (F≥0)) (qY b a λG H I J L M N O Q=>qE BV #[Pv c,Iv id,.agg #[Iv G,Iv H,Iv I,Iv J,Iv L,Iv M,Iv N,.bool O,.bool Q]] b λi=>NN c λa40=>qZ i a40 10 λR=>qQ uL #[Pv R,Iv id,Iv 0,Iv 0] i λaw x=>g x) (qY b a λS T U V W X Y Z aa=>qF Jn #[Pv c,Iv id,.agg #[Iv S,Iv T,Iv U,Iv V,Iv W,Iv X,Iv Y,.bool Z,.bool aa],Sv n] b λab j=>dX ab (K aN2 j) (g j))) λv=>Dr (λf=>NN c λq=>qP f (q.add 1) λad ae af=>qL f a 3 λag=>qE ra #[.agg #[Pv ad,Pv ae,Pv af],Iv ag,Sv n] f λk=>NN c λr=>qZ k r 8 λah=>qQ BW #[Pv ah,Iv id] k λax y=>Dr (λd=>NN c λh=>qM d h 11 λo=>NN c λs=>qZ d s 9 λai=>qL d a 4 λaj=>zU Jo #[Pv ai,Iv aj] d λak l=>zS l h 11 (.map o) λay=>∃m:bH,Sem.run P (Instr.mapUpdate 81 (.map o) (Iv id) (.int .u64 ak)) l=.ok () m/\K aN3 m) y) v) u
def WV(g:Int)(b a:Addr):=
 qc w b λd=>qW d g 1 λc=>qm w c λe=>cond e (K aN3 w) (qc w a λf=>qW f g 1 λa5=>qm w a5 λh=>K (.bool h) w)
def WW(g:Int)(a:Addr):=
 qc w a λc=>qW c g 1 λb=>qm w b λd=>K (.bool d) w
def LH(s:Sl)(f:bE):=
 qO 0 w λj a d=>fB a s.n (qW s a 6 λk=>zR d k λl m n g h i=>eY P f #[.agg #[Iv l,Iv m,Iv n,Iv g,Iv h,.bool i]] d λe b=>∃c,e=.returned (.bool c)/\cond c (K (Iv a) b) ((j (i64.wrap (a+1)) b))) (K (Iv (-1)) d)
def LI(c:ch)(id g:Int):=
 NN c λax=>qZ w ax 10 λaz=>qX px #[Pv az,Iv id] w λaA aB aC aD aE L M N O Q ay=>qV ay λb D=>qU [Iv aA,Iv aB,Iv aC,Iv aD,Iv aE,Iv L,Iv M,.bool N,.bool O] b D λh=>qL h b 4 λR=>q9 (λq=>qh (λf=>cond (Q !=0) (f true h) (NN c λa27=>qZ h a27 0 λT=>qF j8 #[Pv T,Iv g] h λU e=>dX U (f true e) (qL e b 2 λV=>cond (V==0) (qL e (b.add 0) 0 λW=>f (decide (W<0)) e) (f false e)))) λS d=>cond S (K (.tuple #[Iv (-1),Iv 2]) d) (qL d b 2 λX=>cond (X==1) (NN c λa35=>qZ d a35 8 λY=>qQ xG #[Pv Y,Iv id] d λaF F=>K (.tuple #[Iv (-1),Iv 0]) F) (qL d b 2 λZ=>cond (Z==0) (q g d) (q R d)))) λa E=>zX CB #[Pv c,Iv a] E λaa ab u l=>cond (u !=0) (K (.tuple #[Iv ab,Iv u]) l) (qY l b λad ae af ag ah ai aj ak al=>zJ uO #[Pv c,.agg #[Iv ad,Iv ae,Iv af,Iv ag,Iv ah,Iv ai,Iv aj,.bool ak,.bool al]] l λam m=>qg (λr=>qL m b 2 λan=>cond (an==2) (Dr (λi=>NN c λa63=>qP i (a63.add 4) λv x y=>qL i b 3 λz=>NN c λC=>qZ i C 0 λao=>qJ q7 #[Pv ao,Iv a] i λap n=>zH n b 3 (Iv z) λaG=>qP n (a63.add 4) λaq ar au=>((.agg #[Pv aq,Pv ar,Pv au]):bE)=(.agg #[Pv v,Pv x,Pv y])/\qE ra #[.agg #[Pv v,Pv x,Pv y],Iv z,Sv ap] n λH=>r H) m) (r m)) λG=>Dr (λj=>NN c λs=>qZ j s 9 λA=>NN c λt=>qM j t 11 λo=>∃p:Int,gr P 81 (.map o) (Iv id) false j (.int .u64 p)/\qQ uC #[Pv c,Iv a] j λav k=>∃B:Int,gr P 81 (.map o) (Iv id) false k (.int .u64 B)/\((.int .u64 B):bE)=(.int .u64 p)/\zS k t 11 (.map o) λaH=>qG k s 9 (Pv A) λaI=>qF Jq #[Pv A,.int .u64 p,Iv a,Iv av] k λaw I=>qE CC #[Pv c,Iv id,Iv aa,Iv a,.string am,.bool (!aw)] I λJ=>K (.tuple #[Iv (-1),Iv 0]) J) G)
def LJ(s:ch)(e f:Int):=
 Al (.cells #[Iv e,Iv f] 54) (λd w2=>zZ w2 d λo p=>qF xQ #[Pv s,.agg #[Iv o,Iv p]] w2 λq h=>dX q (K (.tuple #[.string (ByteArray.mk #[]),Iv 2]) h) (Dr (λa=>NN s λa9=>qM a a9 1 λi=>zZ a d λj k=>∃b:ByteArray,∃c:Bool,gr P 137 (.map i) (.agg #[Iv j,Iv k]) true a (.tuple #[.string b,.bool c])/\cond c (K (.tuple #[.string b,Iv 0]) a) (zZ a d λl m=>zJ CD #[.agg #[Iv l,Iv m]] a λn g=>K (.tuple #[.string n,Iv 0]) g)) h)) w
def LL(t:ch)(b c:Int):=
 Al (.cells #[Iv b,Iv c] 54) (λf w2=>Dr (λa=>NN t λa4=>qM a a4 1 λg=>zZ a f λh i=>∃d:Int,∃e:Bool,gr P 119 (.map g) (.agg #[Iv h,Iv i]) true a (.tuple #[Iv d,.bool e])/\cond e (K (Iv d) a) (K (Iv (-1)) a)) w2) w
def LM(t:ch)(g h owner:Int):=
 Al (.cells #[Iv g,Iv h] 54) (λa w2=>NN t λa3=>qL w2 a3 3 λb=>qL w2 a 0 λL=>ed L 0 (qU [Iv (-1),Iv b] a w2 λx=>NN t λJ=>qL x J 3 λM=>NN t λa9=>St (a9.add 3) (Iv (i64.wrap (M+1))) (λu=>Dr (λc=>NN t λi=>qM c i 0 λo=>zZ c a λy z=>Al (.cells #[Iv y,Iv z,Iv 0,Iv 0,Iv owner,Iv 0,Iv 0,.bool false,.bool false] 57) (λr j=>zS j i 0 (.map o) λN=>∃k:bH,Sem.run P (Instr.mapUpdate 117 (.map o) (Iv b) (Pv (some r))) j=.ok () k/\K (.tuple #[Iv b,Iv 0]) k) c) u) x) (zZ w2 a λA B=>qQ Ck #[Pv t,.agg #[Iv A,Iv B]] w2 λC l=>cond (decide (C≥0)) (K (.tuple #[Iv (-1),Iv 4]) l) (Dr (λd=>NN t λa26=>qM d a26 1 λD=>zZ d a λE F=>∃e:bH,Sem.run P (Instr.mapUpdate 119 (.map D) (.agg #[Iv E,Iv F]) (Iv b)) d=.ok () e/\NN t λq=>qL e q 3 λG=>NN t λa33=>St (a33.add 3) (Iv (i64.wrap (G+1))) (λv=>Dr (λf=>NN t λa36=>qM f a36 0 λp=>zZ f a λH I=>Al (.cells #[Iv H,Iv I,Iv 0,Iv 0,Iv owner,Iv 0,Iv 0,.bool false,.bool false] 57) (λs m=>zS m a36 0 (.map p) λO=>∃n:bH,Sem.run P (Instr.mapUpdate 117 (.map p) (Iv b) (Pv (some s))) m=.ok () n/\K (.tuple #[Iv b,Iv 0]) n) f) v) e) l))) w
def LN(s:ch)(i:Int):=
 ed i 0 (K (Pv none) w) (NN s λa=>qK w a 0 λb=>cond (decide (i≥((b.n:Nat):Int))) (K (Pv none) w) (NN s λa3=>qK w a3 0 λc=>qW c i 16 λa5=>K (Pv (some a5)) w))
def LO(c:ch)(g:Int)(text:ByteArray):=
 zX CB #[Pv c,Iv g] w λi j e b=>cond (e !=0) (K (.tuple #[Iv (-1),Iv j,Iv e]) b) (NN c λf=>qZ b f 10 λk=>qj Cl #[Pv k,.agg #[Iv (-1),Iv 0],Iv g] b λa l h=>qE CC #[Pv c,Iv a,Iv i,Iv g,.string text,.bool false] h λd=>K (.tuple #[Iv a,Iv (-1),Iv 0]) d)
def LP(c:ch)(h i j k l m n:Int)(o p:Bool):=
 Al (.cells #[Iv h,Iv i,Iv j,Iv k,Iv l,Iv m,Iv n,.bool o,.bool p] 57) (λd w2=>qL w2 d 2 λB=>cond (B==1) (Dr (λe=>NN c λa5=>qZ e (a5.add 1) 1 λD=>qL e d 3 λE=>zQ CE #[Pv D,Iv E] e λs F C=>K (.string s) C) w2) (cond (B==2) (Dr (λa=>NN c λf=>qZ a (f.add 4) 1 λt=>qL a d 3 λu=>zQ CE #[Pv t,Iv u] a λv G q=>K (.string v) q) w2) (Dr (λb=>NN c λg=>qZ b g 7 λx=>zZ b (d.add 0) λy z=>zQ xN #[Pv x,.agg #[Iv y,Iv z]] b λA H r=>K (.string A) r) w2))) w
def LQ(p:ch)(a:Addr):=
 qm w a λd=>NN p λb=>St (b.add 8) (.bool d) (λc=>K aN4 c) w
def LR(s:ch)(f g:Int)(text:ByteArray):=
 Al (.cells #[Iv f,Iv g] 54) (λh w2=>zZ w2 h λn o=>qF xQ #[Pv s,.agg #[Iv n,Iv o]] w2 λp b=>dX p (K (Iv 2) b) (cond (((text.size:Nat):Int) !=16) (K (Iv 1) b) (Dr (λc=>NN s λa9=>qM c a9 1 λj=>zZ c h λk l=>∃a:bH,Sem.run P (Instr.mapUpdate 137 (.map j) (.agg #[Iv k,Iv l]) (.string text)) c=.ok () a/\NN s λd=>qL a d 2 λm=>NN s λe=>St (e.add 2) (Iv (i64.wrap (m+1))) (λi=>K (Iv 0) i) a) b))) w
def LS(s:ch)(i:Int):=
 qR sx #[Pv s,Iv i] w λb a=>cond b.isNone (K (Iv 1) a) (NN b λa4=>tT 16 .u8 (.agg #[.int .u8 0,.int .u8 0,.int .u8 0,.int .u8 0,.int .u8 0,.int .u8 0,.int .u8 0,.int .u8 0,.int .u8 0,.int .u8 0,.int .u8 0,.int .u8 0,.int .u8 0,.int .u8 0,.int .u8 0,.int .u8 0]) a4 a (λc=>K (Iv 0) c))
def LU(p:ch)(i:Int):=
 qh (λb=>ed i 0 (b true w) (NN p λa5=>qZ w a5 0 λh=>qQ Bx #[Pv h] w λj f=>b (decide (i≥j)) f)) λg w2=>cond g (K (Iv 1) w2) (NN p λc=>qZ w2 c 0 λd=>qF CF #[Pv d,Iv i,.bool false] w2 λe a=>dX e (K (Iv 2) a) (K (Iv 0) a))
variable{K w}
def WX(a x)(h:Ll K w a x):=bM (z8 [20,24,25,26,30,32,39,40,45,46,47] [] [(6,[(1,.int .u64),(8,.slice),(31,jZ)])] [(4,[])]) #[Sv a,.int .u64 x] K w func166 h
def sC:dO:={quiet:=λd=>[11].contains d}
def C3:Nat->Bool:=λd=>[].contains d
def WY(t:ch)(g:Int)(K:bg1)(w:bH):m1 P fF gL cz sC C3 f169 #[(.pointer t),(.int .i64 g)] K w=CZ K w t g:=by kernel_rfl
def WZ:m2 P sC f169 2=true:=by kernel_rfl
def W0(t:ch)(g:Int){K:bg1}{w:bH}(h:CZ K w t g):Calls P B2 #[(Pv t),(Iv g)] w (cA K):=nU mixed func169 WZ (by rw[WY];exact h)
def LV(c:Addr)(b:Nat)(w:bH)(R:Ending->bg0):Prop:=
 lf b (λa=>qD a c λe=>St c (Iv (i64.wrap (e+1))) (λd=>e2 b none R d) a) w
def W1(t:ch)(g:Int)(b:Addr)(d:bE)(c:Int)(a:Nat)(w:bH)(R:Ending->bg0):mo P fF gL cz sC C3 13 a (j6 f169.body) (j7 f169.body) (lj [(9,.int .i64 c)] ((((((jg [(.pointer t),(.int .i64 g)] 0 .nil).put (some 4) (.int .i64 0)).put (some 5) (.pointer (some b))).put (some 6) (.pointer t)).put (some 7) (.int .i64 g)).put (some 8) d)) w R=LV b a w R:=by kernel_rfl
def W2:gK P 13 sC (j6 f169.body)=true/\gK P 13 sC (j7 f169.body)=true:=⟨by kernel_rfl,by kernel_rfl⟩
def W3(t g)(h:Lm K w t g):=bM {} #[Pv t,Iv g] K w func170 h
def W4(s del)(h:Ln K w s del):=bM {(z8 [12,15,18,19,21,35] [] [(5,[(5,jZ),(6,jZ)])]:dO)with dyn:=λd=>[28].contains d} #[Sv s,del] K w func171 h
def W5(id b a)(h:Lo K w id b a):=bM {(z8 [15]:dO)with head:=λr=>(bif r==1 then 12 else 0)} #[Iv id,Pv (some b),Pv (some a)] K w func172 h
def LW(t id jO)(h:C0 K w t id jO):=bM {(z8 [15]:dO)with dyn:=λd=>[18].contains d} #[Pv t,Iv id,jO] K w func173 h
def W6(p a)(h:Lp K w p a):=bM {} #[Pv p,Pv (some a)] K w func174 h
def W7(l group change)(h:Lq K w l group change):=bM {(z8 [27,31,40] [(7,[jQ 7],[6])] [(3,[(7,jZ)])] [(7,[(32,.bool)])]:dO)with dyn:=λd=>[23].contains d,Au:=λd=>(bif d==18 then[.one (.int .i64),.agg [.int .i64,.int .i64]]else[.one .raw,.one .raw])} #[Pv l,Iv group,change] K w func175 h
def W8(b c a)(h:Lr K w b c a):=bM {} #[.agg #[Iv b,Iv c],Pv (some a)] K w func176 h
def W9(chain n)(h:Ls K w chain n):=bM (z8 [9,11,24] [] [(3,[(10,jZ)])]) #[Sv chain,Iv n] K w func177 h
def Xa(c chain is)(h:Lt K w c chain is):=bM {(z8 [10,12,24] [] [(2,[(11,jZ)])]:dO)with dyn:=λd=>[22].contains d} #[Pv c,Sv chain,is] K w func178 h
def Xb(b c d e a)(h:Lu K w b c d e a):=bM (z8 [7]) #[.agg #[Iv b,Iv c,Iv d,Iv e],Pv (some a)] K w func179 h
def Xc(n)(h:Lv K w n):=bM (z8 [4,7]) #[Iv n] K w func180 h
def Xd(t is)(h:Lw K w t is):=bM {(z8 [11,13,32] [] [(3,[(5,.slice),(12,jZ)])] [(6,[(27,.bool)])]:dO)with dyn:=λd=>[26].contains d} #[Pv t,is] K w func181 h
def Xe(x b a)(h:Lx K w x b a):=bM (z8 [] [(1,[[0,1,3,2,4,5]],[2,4])]) #[Iv x,Pv (some b),Pv (some a)] K w func182 h
def C4(s v)(h:x1 K w s v):=bM (z8 [8]) #[Sv s,Iv v] K w func183 h
def Xf(a b)(h:Ly K w a b):=bM (z8 [7,8]) #[.agg #[Iv a,Iv b]] K w func184 h
def Xg(l target)(h:Lz K w l target):=bM (z8 [17,22,23,26,30,32,42,44,46,49,51,57,78,86,102] [(7,[jQ 10],[6,9]),(17,[jQ 15],[12,14])] [(5,[(31,jZ)]),(11,[(50,jZ)])] [(3,[]),(14,[]),(17,[(87,.bool)])]) #[Sv l,Iv target] K w func185 h
def sD:dO:={quiet:=λd=>[17,22,23,46].contains d,head:=λr=>(bif r==5 then 10 else 0)}
def C5:Nat->Bool:=λd=>[].contains d
def Xh(l dU:Sl)(target g:Int)(K:bg1)(w:bH):m1 P fF gL cz sD C5 f186 #[(.slice l.p l.n l.c),(.slice dU.p dU.n dU.c),(.int .i64 target),(.int .i64 g)] K w=C2 K w l dU target g:=by kernel_rfl
def Xi:m2 P sD f186 4=true:=by kernel_rfl
def Xj(l dU:Sl)(target g:Int){K:bg1}{w:bH}(h:C2 K w l dU target g):Calls P Cc #[(Sv l),(Sv dU),(Iv target),(Iv g)] w (cA K):=nU mixed func186 Xi (by rw[Xh];exact h)
def LX(k l m:Addr)(b:Int)(c:Nat)(w:bH)(R:Ending->bg0):Prop:=
 lf c (λe=>Dr (λa=>qc a k λg=>qW g b 3 λd=>qL a d 1 λh=>qc a l λi=>qW i b 1 λa41=>qD a a41 λj=>cond (decide (h<=j)) (St m (.bool true) (λf=>e2 c (some .ret) R f) a) (e2 c none R a)) e) w
def Xk(l dU:Sl)(target g:Int)(k m n:Addr)(h i:Sl)(b:Bool)(a c:Sl)(d:Bool)(e:Sl)(o:bE)(f:Int)(j:Nat)(w:bH)(R:Ending->bg0):mo P fF gL cz sD C5 47 j (j6 f186.body) (j7 f186.body) (lj [(36,.int .i64 f)] (((((((((((((((((((((((((((((((((jg [(.slice l.p l.n l.c),(.slice dU.p dU.n dU.c),(.int .i64 target),(.int .i64 g)] 0 .nil).put (some 4) (.pointer (some k))).put (some 5) (.pointer (some m))).put (some 8) (.pointer (some n))).put (some 10) (.slice h.p h.n h.c)).put (some 11) (.slice i.p i.n i.c)).put (some 12) (.int .i64 target)).put (some 13) (.bool b)).put (some 14) (.bool (!b))).put (some 15) (.bool (!b))).put (some 15) (.bool false)).put (some 16) (.int .i64 g)).put (some 17) (.bool (decide (g<0)))).put (some 18) (.bool (decide (g<0)))).put (some 19) (.bool (decide (g<0)))).put (some 19) (.bool false)).put (some 20) (.int .i64 g)).put (some 21) (.slice a.p a.n a.c)).put (some 22) (.int .i64 ((a.n:Nat):Int))).put (some 23) (.bool (decide (g≥((a.n:Nat):Int))))).put (some 24) (.bool (decide (g≥((a.n:Nat):Int))))).put (some 25) (.bool (decide (g≥((a.n:Nat):Int))))).put (some 25) (.bool false)).put (some 26) (.slice c.p c.n c.c)).put (some 27) (.int .i64 g)).put (some 28) (.int .i64 target)).put (some 29) (.bool d)).put (some 30) (.bool (!d))).put (some 31) (.bool (!d))).put (some 32) (.slice e.p e.n e.c)).put (some 33) (.int .i64 g)).put (some 34) (.int .i64 target)).put (some 35) o)) w R=LX k m n f j w R:=by kernel_rfl
def Xl:gK P 47 sD (j6 f186.body)=true/\gK P 47 sD (j7 f186.body)=true:=⟨by kernel_rfl,by kernel_rfl⟩
def Xm(n weights)(h:LA K w n weights):=bM (z8 [7,10,14,15]) #[Iv n,Sv weights] K w func187 h
def Xn(l)(h:LB K w l):=bM (z8 [7,9,14,15] [] [(3,[(3,jZ),(8,jZ)])]) #[Sv l] K w func189 h
def Xo(n weights)(h:LC K w n weights):=bM (z8 [22,27,31,33,39,41,49,56,63,70,76,78,86,88] [] [(10,[(7,.slice),(8,jZ),(32,jZ)]),(20,[(77,jZ)])]) #[Iv n,Sv weights] K w func190 h
def Xp(l a)(h:LD K w l a):=bM {} #[Pv l,Sv a] K w func191 h
def Xq(held b a)(h:LF K w held b a):=bM {(z8 [10,12,34] [] [(2,[(11,jZ)])]:dO)with dyn:=λd=>[27].contains d} #[held,Pv (some b),Pv (some a)] K w func192 h
def Xr(c id)(h:LG K w c id):=bM (z8 [27] [(2,[jQ 8],[6]),(8,[jQ 8],[7]),(10,[jQ 13],[11,12])] [] [(8,[])]) #[Pv c,Iv id] K w func193 h
def Xs(g b a)(h:WV K w g b a):=bM {} #[Iv g,Pv (some b),Pv (some a)] K w func194 h
def Xt(g a)(h:WW K w g a):=bM {} #[Iv g,Pv (some a)] K w func195 h
def Xu(s f)(h:LH K w s f):=bM {(z8 [7,9,18] [] [(2,[(8,jZ)])]:dO)with dyn:=λd=>[16].contains d} #[Sv s,f] K w func198 h
def Xv(c id g)(h:LI K w c id g):=bM (z8 [28,41,46,52,62,72,80] [(15,[jQ 13],[11,12]),(16,[jQ 16],[13,14])] [] [(4,[(26,.bool)]),(10,[(10,jZ)]),(16,[])]) #[Pv c,Iv id,Iv g] K w func205 h
def Xw(s a b)(h:LJ K w s a b):=bM {(z8:dO)with head:=λr=>(bif r==3 then 11 else 0)} #[Pv s,.agg #[Iv a,Iv b]] K w func207 h
def Xx(t a b)(h:LL K w t a b):=bM {(z8:dO)with head:=λr=>(bif r==1 then 11 else 0)} #[Pv t,.agg #[Iv a,Iv b]] K w func208 h
def Xy(t a b owner)(h:LM K w t a b owner):=bM (z8 [22,29,34] [(2,[jQ 7],[6]),(8,[jQ 10],[8,9])]) #[Pv t,.agg #[Iv a,Iv b],Iv owner] K w func209 h
def Xz(s i)(h:LN K w s i):=bM (z8 [6,13,14]) #[Pv s,Iv i] K w func211 h
def XA(c g text)(h:LO K w c g text):=bM (z8 [22]) #[Pv c,Iv g,.string text] K w func213 h
def XB(c a b d e f g i j k)(h:LP K w c a b d e f g i j k):=bM (z8 [19,32] [(3,[jQ 11],[6]),(5,[jQ 12],[7]),(7,[jQ 12],[7])]) #[Pv c,.agg #[Iv a,Iv b,Iv d,Iv e,Iv f,Iv g,Iv i,.bool j,.bool k]] K w func214 h
def XC(p a)(h:LQ K w p a):=bM {} #[Pv p,Pv (some a)] K w func215 h
def XD(s a b text)(h:LR K w s a b text):=bM (z8 [14,15,26] [(5,[jQ 7],[6])]) #[Pv s,.agg #[Iv a,Iv b],.string text] K w func216 h
def XE(s i)(h:LS K w s i):=bM (z8 [10]) #[Pv s,Iv i] K w func217 h
def XF(p i)(h:LU K w p i):=bM (z8 [7,15] [] [] [(2,[(5,.bool)])]) #[Pv p,Iv i] K w func218 h
end Go.Mp
namespace Go.Mp
open Go Go.Vc Go.Proofs
variable{K:bg1}{w:bH}
variable(K w)
def LY(t:ch)(place a:Int):=
 NN t λd=>qM w d 2 λe=>∃b:Int,∃c:Bool,gr P 120 (.map e) (.agg #[Iv place,Iv a]) true w (.tuple #[Iv b,.bool c])/\cond c (K (Iv b) w) (K (Iv (-1)) w)
def LZ(a:Sl):=
 qI 0 0 w λe n5 d b=>fB d a.n (qW a d 1 λf=>qD b f λc=>ed c 0 (K (.tuple #[Iv 0,.bool false]) b) (cond (decide (c>62)) (K (.tuple #[Iv 0,.bool false]) b) (cond (decide ((i64.wrap (n5+c))>64)) (K (.tuple #[Iv 0,.bool false]) b) ((e (i64.wrap (n5+c)) (i64.wrap (d+1)) b))))) (K (.tuple #[Iv n5,.bool true]) b)
def L1(n:Int):=
 0<=(u64.wrap n)/\K (.int .u64 (u64.wrap ((u64.wrap (1*2^(min (u64.wrap n).toNat 64)))-1))) w
def L2(x:Int)(c b:Addr):=
 Dr (λa=>qb a c λd=>NN d λa3=>qK a a3 0 λe=>qW e x 2 λa5=>qL a a5 0 λf=>qD a b λg=>K (.bool (f==g)) a) w
def L3(s:Sl)(f:bE):=
 qO 0 w λe a c=>fB a s.n (qW s a 1 λg=>qD c g λi=>eY P f #[Iv i] c λh d=>∃b,h=.returned (.bool b)/\cond b (K (Iv a) d) ((e (i64.wrap (a+1)) d))) (K (Iv (-1)) c)
def x2(s:Sl)(v:Int):=
 qO 0 w λc b a=>fB b s.n (qW s b 1 λd=>qD a d λe=>cond (v==e) (K (Iv b) a) ((c (i64.wrap (b+1)) a))) (K (Iv (-1)) a)
def L4(l:Sl):=
 qO 0 w λm c k=>fB c l.n (qW l c 3 λA=>ql k A λB C D=>qi k λa n=>qU [Iv B,Iv C,Iv D] a n λe=>qh (λh=>cond (c==0) (qL e a 0 λo=>h (o==(-1)) e) (h false e)) λd b=>dX d (qL b a 0 λp=>ed p 0 (K aN2 b) (qL b a 0 λq=>cond (decide (q≥c)) (K aN2 b) (qL b a 1 λr=>qF uR #[Iv r] b λs f=>dX s (K aN2 f) (qL f a 2 λt=>qF uR #[Iv t] f λu i=>dX u (K aN2 i) ((m (i64.wrap (c+1)) i)))))) (qL b a 1 λv=>qF uR #[Iv v] b λx g=>dX x (K aN2 g) (qL g a 2 λy=>qF uR #[Iv y] g λz j=>dX z (K aN2 j) ((m (i64.wrap (c+1)) j))))) (K (.bool (decide (((l.n:Nat):Int)<=64))) k)
def L5(b c d:Int):=
 Al (.cells #[Iv b,Iv c,Iv d] 247) (λa w2=>qL w2 a 2 λe=>qL w2 a 1 λf=>K (Iv (min1 e f)) w2) w
def C6(l:Sl)(g target:Int):=
 Al (.cells #[.bool false] 4) (λa w2=>qN Cx #[Sv l,Iv g,Iv target] w2 λf h=>iy P 15 f #[12] (j6 f238.body) (j7 f238.body) .ret (((((((jg [Sv l,Iv g,Iv target] 0 .nil).put (some 6) (Pv (some a))).put (some 8) (Sv l)).put (some 9) (Iv g)).put (some 10) (Iv target)).put (some 11) f)) h (λb6 i=>St a (.bool true) (λd=>d.heap[b6]?=some (.deferred (some []))/\∃e:Bool,(d.putObj b6 (.deferred none)).cell? a=some (.bool e)/\K (.bool e) (d.putObj b6 (.deferred none))) i) (λb7 c=>c.heap[b7]?=some (.deferred (some []))/\∃b:Bool,(c.putObj b7 (.deferred none)).cell? a=some (.bool b)/\K (.bool b) (c.putObj b7 (.deferred none)))) w
def L6(a p s:Int):=
 zN xP #[.int .u64 (u64.wrap a),.int .u64 (u64.wrap p)] w λd e b=>zN uQ #[.int .u64 d,.int .u64 e,.int .u64 (u64.wrap s)] b λf g c=>K (Iv (i64.wrap f)) c
def L7(l dU:Sl)(target:Int):=
 qF Cv #[Sv l] w λb a=>cond b (cond (((dU.n:Nat):Int)==((l.n:Nat):Int)) (cond (decide ((0:Int)<=target)) (K (.bool (decide (target<((l.n:Nat):Int)))) a) (K aN2 a)) (K aN2 a)) (K aN2 a)
def L8(l:Sl)(g target:Int):=
 Al (.cells #[Sv l] 245) (λa w2=>qC #[Iv g] w2 λb d=>qC #[Iv target] d λc e=>K (.func (.func sy) #[] #[Pv (some b),Pv (some c),Pv (some a)]) e) w
def L9(a:Int):=
 ed a 0 (K aN3 w) (K (.bool (decide (a>1099511627776))) w)
def Ma(s:Sl)(f:bE):=
 qQ Cu #[Sv s,f] w λb a=>K (.bool (decide (b≥0))) a
def C7(x y:Int):=
 0<=(32:Int)/\0<=(32:Int)/\0<=(32:Int)/\0<=(32:Int)/\0<=(32:Int)/\K (.tuple #[.int .u64 (u64.wrap ((u64.wrap ((u64.wrap ((x.fdiv (2^(min (32:Int).toNat 64)))*(y.fdiv (2^(min (32:Int).toNat 64)))))+((u64.wrap ((u64.wrap ((x.fdiv (2^(min (32:Int).toNat 64)))*(bU .u64 y 4294967295)))+((u64.wrap ((bU .u64 x 4294967295)*(bU .u64 y 4294967295))).fdiv (2^(min (32:Int).toNat 64))))).fdiv (2^(min (32:Int).toNat 64)))))+((u64.wrap ((bU .u64 (u64.wrap ((u64.wrap ((x.fdiv (2^(min (32:Int).toNat 64)))*(bU .u64 y 4294967295)))+((u64.wrap ((bU .u64 x 4294967295)*(bU .u64 y 4294967295))).fdiv (2^(min (32:Int).toNat 64))))) 4294967295)+(u64.wrap ((bU .u64 x 4294967295)*(y.fdiv (2^(min (32:Int).toNat 64))))))).fdiv (2^(min (32:Int).toNat 64))))),.int .u64 (u64.wrap (x*y))]) w
def Mb(x:Sl)(cmp:bE):=
 qE Ju #[Sv x,Iv ((x.n:Nat):Int),cmp] w λa=>K aN4 a
def Mc(b c d e:Int):=
 Al (.cells #[Iv b,.int .u64 c] 302) (λh w2=>Al (.cells #[Iv d,.int .u64 e] 302) (λi a=>∃f:Int,a.cell? (i.add 1)=some (.int .u64 f)/\∃g:Int,a.cell? (h.add 1)=some (.int .u64 g)/\qQ Ji #[.int .u64 f,.int .u64 g] a λk j=>K (Iv k) j) w2) w
def Md(x y:Int):=
 qF CH #[.int .u64 x] w λd c=>qF CH #[.int .u64 y] c λb a=>cond d (cond b (K (Iv 0) a) (K (Iv (-1)) a)) (cond b (K (Iv 1) a) (ed x y (K (Iv (-1)) a) (cond (decide (x>y)) (K (Iv 1) a) (K (Iv 0) a))))
def Me(id:Int)(c b:Addr):=
 Dr (λa=>qc a c λg=>qb a b λh=>NN h λa4=>qM a a4 0 λi=>∃e:Int,∃j:Int,gr P 140 (.map i) (Iv id) false a (.agg #[Iv e,Iv j])/\qF py #[Sv g,Iv e] a λd f=>K (.bool (!d)) f) w
def Mf(x:Sl)(cmp:bE):=
 qE Jv #[Sv x,Iv ((x.n:Nat):Int),cmp] w λa=>K aN4 a
def Mg(a b:Int)(d:Addr):=
 Dr (λc=>qb c d λk=>NN k λa3=>qM c a3 0 λl=>∃m:Int,∃i:Int,gr P 140 (.map l) (Iv b) false c (.agg #[Iv m,Iv i])/\qb c d λn=>NN n λj=>qM c j 0 λo=>∃g:Int,∃e:Int,gr P 140 (.map o) (Iv a) false c (.agg #[Iv g,Iv e])/\qQ Jm #[Iv i,Iv e] c λh f=>K (Iv h) f) w
def Mh(x y:Int):=
 qF CG #[Iv x] w λd c=>qF CG #[Iv y] c λb a=>cond d (cond b (K (Iv 0) a) (K (Iv (-1)) a)) (cond b (K (Iv 1) a) (ed x y (K (Iv (-1)) a) (cond (decide (x>y)) (K (Iv 1) a) (K (Iv 0) a))))
def Mi(c:ch)(id p q r s t u v:Int)(x y:Bool)(chain:Sl):=
 Al (.cells #[Iv p,Iv q,Iv r,Iv s,Iv t,Iv u,Iv v,.bool x,.bool y] 57) (λV w2=>qO 0 w2 λT n d=>fB n chain.n (qW chain n 1 λU=>qD d U λS=>Dr (λf=>NN c λe=>qZ f (e.add 4) 2 λk=>qQ xe #[Pv c,Iv S] f λB g=>qG g (e.add 4) 2 (Pv k) λW=>qQ Jw #[Pv k,Iv S] g λC h=>cond (decide (B≥C)) (K aN2 h) ((T (i64.wrap (n+1)) h))) d) (NN c λa20=>qZ d (a20.add 4) 0 λD=>qj sA #[Pv D] d λl E a=>cond (E !=0) (K aN2 a) (NN c λa26=>qZ a (a26.add 4) 2 λF=>qj uS #[Pv F,Sv chain,Iv 1] a λX Y z=>Dr (λb=>NN c λa33=>qZ b (a33.add 4) 1 λm=>qY b V λG H I J L M N O P=>zJ uO #[Pv c,.agg #[Iv G,Iv H,Iv I,Iv J,Iv L,Iv M,Iv N,.bool O,.bool P]] b λQ i=>qG i (a33.add 4) 1 (Pv m) λZ=>qQ CI #[Pv m,Iv l,.string Q] i λaa j=>NN c λo=>qZ j o 10 λR=>qQ uL #[Pv R,Iv id,Iv 2,Iv l] j λab A=>K aN3 A) z))) w
def Mj(l:ch)(g:Int):=
 qF xS #[Iv g] w λk b=>dX k (K (.int .u64 0) b) (NN l λa4=>cM (some (a4.add 0)) 64 g 2 λa5=>qL b a5 0 λm=>zU Jx #[Iv g,Iv m] b λn j=>Dr (λa=>NN l λc=>cM (some (c.add 0)) 64 g 2 λd=>qL a d 0 λi=>NN l λe=>cM (some (e.add 0)) 64 g 2 λf=>St (f.add 0) (Iv (i64.wrap (i+1))) (λh=>K (.int .u64 n) h) a) j)
def Mk(c:ch)(g:Int):=
 ∃(p:Sl->bg0) (M2:Sl->bH->Nat),(NN c λR=>qZ w R 0 λS=>qJ q7 #[Pv S,Iv g] w λk z=>NN c λq=>qZ z (q.add 1) 2 λA=>qj uS #[Pv A,Sv k,Iv 1] z λB C e=>q9 (λm=>cond (C==0) (NN c λr=>qZ e (r.add 1) 0 λD=>qj sA #[Pv D] e λE F f=>cond (F==0) (K (.tuple #[Iv E,Iv (-1),Iv 0]) f) (NN c λa27=>qZ f (a27.add 1) 2 λG=>qQ sr #[Pv G,Sv k,Iv 1] f λU v=>m 0 v)) (m B e)) λb u=>qF sv #[Pv c,Iv b] u λH o=>cond H (p k o) (K (.tuple #[Iv (-1),Iv b,Iv 12]) o))/\∀T:Nat->bE,∀a:Sl,∀l:bH,p a l->NN c λa35=>qZ l (a35.add 1) 2 λI=>qj uS #[Pv I,Sv a,Iv 1] l λJ L h=>q9 (λn=>cond (L==0) (NN c λs=>qZ h (s.add 1) 0 λM=>qj sA #[Pv M] h λN O i=>cond (O==0) (K (.tuple #[Iv N,Iv (-1),Iv 0]) i) (NN c λt=>qZ i (t.add 1) 2 λP=>qQ sr #[Pv P,Sv a,Iv 1] i λV y=>n 0 y)) (n J h)) λd x=>qF sv #[Pv c,Iv d] x λQ j=>cond Q ((p a j/\M2 a j<M2 a l)) (K (.tuple #[Iv (-1),Iv d,Iv 12]) j)
def Ml(l:ch)(x b a:Int):=
 zO CJ #[.int .u64 x] w λq u t i=>qg (λr=>dX t (K aN2 i) (qF xS #[Iv q] i λk f=>dX k (K aN2 f) (NN l λg=>cM (some (g.add 0)) 64 q 2 λh=>qL f h 0 λm=>qF Jy #[.int .u64 x,Iv m,Iv a] f λn c=>dX n (K aN2 c) (r c)))) λs=>qF xS #[Iv b] s λo d=>cond o (Dr (λe=>NN l λa22=>cM (some (a22.add 0)) 64 b 2 λa23=>qL e a23 1 λp=>NN l λa25=>cM (some (a25.add 0)) 64 b 2 λa26=>St (a26.add 1) (Iv (i64.wrap (p+1))) (λj=>K aN3 j) e) d) (K aN3 d)
def Mm(c:ch)(id a g:Int)(text:ByteArray)(dY:Bool):=
 NN c λl=>qZ w (l.add 1) 1 λn=>qQ CI #[Pv n,Iv a,.string text] w λs h=>NN c λm=>qZ h m 10 λo=>qQ BI #[Pv o,Iv id,Iv g] h λp i=>NN c λd=>qZ i d 10 λj=>qQ uL #[Pv j,Iv id,Iv 1,Iv a] i λq b=>NN c λe=>qZ b e 8 λk=>qQ Jz #[Pv k,Iv id,Iv g,.bool dY] b λr f=>K aN4 f
def Mn(c:ch):=
 NN c λr=>qK w r 12 λp=>qf ⟨none,0,0⟩ 0 w λq h g f=>fB g p.n (qW p g 3 λa9=>qa f a9 λl m n=>qx f λa j=>qU [Iv l,Iv m,.bool n] a j λb=>qy b a 2 λo=>Al (.cells #[.bool o] 4) (λi k=>∃e:Sl,∃d:bH,Sem.run P (Builtin.append_ #[194,194] 194 #[Sv h,.slice (some i) 1 1]) k=.ok (Sv e) d/\(q e (i64.wrap (g+1)) d)) b) (K (Sv h) f)
def Mo(s:ch)(c d:Int):=
 Al (.cells #[Iv c,Iv d] 54) (λb w2=>Dr (λa=>qL a b 1 λg=>cond (decide ((0:Int)<=g)) (qL a b 1 λf=>qL a b 0 λh=>qQ BL #[Pv s,Iv h] a λi e=>zH e b 1 (Iv f) λj=>K (.bool (decide (f<i))) e) (K aN2 a)) w2) w
def Mq(e f:Int):=
 Al (.cells #[Iv e,Iv f] 54) (λk w2=>zD w2 λg i=>zZ i k λl m=>qO 0 i λj a c=>ed a 16 (cM (some g) 16 a 1 λd=>St d (.int .u8 (IntKind.u8.wrap ((IntKind.u8.wrap ((IntKind.u8.wrap ((IntKind.u8.wrap l)*31))+(IntKind.u8.wrap ((IntKind.u8.wrap m)*7))))+(IntKind.u8.wrap a)))) (λh=>(j (i64.wrap (a+1)) h)) c) (∃b:ByteArray,tR P 272 9 (.slice (nd g 0 16 1) (16-0) (16-0)) c (.string b)/\K (.string b) c)) w
def Mr(s:ch)(i:Int):=
 qR sx #[Pv s,Iv i] w λb a=>cond b.isNone (K (.tuple #[.string (ByteArray.mk #[]),Iv 1]) a) (NN b λa4=>∃c:ByteArray,tR P 272 9 (.slice (nd a4 0 16 1) (16-0) (16-0)) a (.string c)/\K (.tuple #[.string c,Iv 0]) a)
def Ms(m:ch)(i:Int)(on:Bool):=
 qg (λl=>ed i 0 (K aN2 w) (NN m λa4=>qL w a4 0 λn=>cond (decide (i≥n)) (K aN2 w) (qF JC #[Pv m,Iv i] w λo j=>cond (o==on) (K aN2 j) (l j)))) λw2=>zC CM #[Iv i] w2 λa k d=>NN m λe=>qK d e 1 λb=>qW b a 1 λf=>∃c:Int,d.cell? f=some (.int .u64 c)/\qW b a 1 λg=>St g (.int .u64 (oo .u64 c k)) (λh=>K aN3 h) d
def XG(x:Int):=
 K (.bool (x !=x)) w
def Mt(n:Int):=
 cond (decide ((0:Int)<=n)) (K (.bool (decide (n<=1099511627776))) w) (K aN2 w)
def C8(yield:bE)(a f d:Addr):=
 qd w λm c=>qD c a λo=>qD c f λp=>cond (o !=p) (qD c a λq=>w6 P none yield #[Iv q] c λn b=>∃e,n=.returned (.bool e)/\dX e (K aN4 b) (qD b a λi=>ed i 0 (K aN4 b) (qc b d λj=>qD b a λk=>qW j k 3 λg=>qL b g 0 λl=>St a (Iv l) (λh=>(([]:bA Nat)= []/\(m h))) b))) (K aN4 c)
variable{K w}
def XH(t place a)(h:LY K w t place a):=bM {} #[Pv t,Iv place,Iv a] K w func219 h
def XI(a)(h:LZ K w a):=bM (z8 [8,10,14,17,22,23,27,28] [] [(3,[(4,jZ),(9,jZ)])]) #[Sv a] K w func231 h
def XJ(n)(h:L1 K w n):=bM (z8 [4,5,6]) #[Iv n] K w func232 h
def XK(x b a)(h:L2 K w x b a):=bM {(z8 [14]:dO)with head:=λr=>(bif r==1 then 11 else 0)} #[Iv x,Pv (some b),Pv (some a)] K w func233 h
def XL(s f)(h:L3 K w s f):=bM {(z8 [7,9,18] [] [(2,[(8,jZ)])]:dO)with dyn:=λd=>[16].contains d} #[Sv s,f] K w func234 h
def C9(s v)(h:x2 K w s v):=bM (z8 [7,9,16,18] [] [(2,[(8,jZ)])]) #[Sv s,Iv v] K w func235 h
def XM(l)(h:L4 K w l):=bM (z8 [7,9,14,18,25,30,45,47,48] [] [(2,[(8,jZ)])] [(5,[(5,.bool)])]) #[Sv l] K w func236 h
def XN(a b c)(h:L5 K w a b c):=bM (z8 [7]) #[.agg #[Iv a,Iv b,Iv c]] K w func237 h
def sE:dO:={quiet:=λd=>[14].contains d}
def Da:Nat->Bool:=λd=>[].contains d
def XO(l:Sl)(g target:Int)(K:bg1)(w:bH):m1 P fF gL cz sE Da f238 #[(.slice l.p l.n l.c),(.int .i64 g),(.int .i64 target)] K w=C6 K w l g target:=by kernel_rfl
def XP:m2 P sE f238 3=true:=by kernel_rfl
def XQ(l:Sl)(g target:Int){K:bg1}{w:bH}(h:C6 K w l g target):Calls P xO #[(Sv l),(Iv g),(Iv target)] w (cA K):=nU mixed func238 XP (by rw[XO];exact h)
def Mu(e:Addr)(d:Int)(b:Nat)(w:bH)(R:Ending->bg0):Prop:=
 lf b (λa=>ed d 0 (St e (.bool false) (λc=>e2 b (some .ret) R c) a) (e2 b none R a)) w
def XR(l:Sl)(g target:Int)(c:Addr)(d:bE)(a:Int)(b:Nat)(w:bH)(R:Ending->bg0):mo P fF gL cz sE Da 15 b (j6 f238.body) (j7 f238.body) (lj [(12,.int .i64 a)] ((((((jg [(.slice l.p l.n l.c),(.int .i64 g),(.int .i64 target)] 0 .nil).put (some 6) (.pointer (some c))).put (some 8) (.slice l.p l.n l.c)).put (some 9) (.int .i64 g)).put (some 10) (.int .i64 target)).put (some 11) d)) w R=Mu c a b w R:=by kernel_rfl
def XS:gK P 15 sE (j6 f238.body)=true/\gK P 15 sE (j7 f238.body)=true:=⟨by kernel_rfl,by kernel_rfl⟩
def XT(a p s)(h:L6 K w a p s):=bM (z8 [13,15,23,28]) #[Iv a,Iv p,Iv s] K w func239 h
def XU(l dU target)(h:L7 K w l dU target):=bM (z8 [11,13,14,18,23,24]) #[Sv l,Sv dU,Iv target] K w func240 h
def XV(l g target)(h:L8 K w l g target):=bM {} #[Sv l,Iv g,Iv target] K w func241 h
def XW(a)(h:L9 K w a):=bM (z8 [4,7]) #[Iv a] K w func242 h
def aig(s f)(h:Ma K w s f):=bM (z8 [8]) #[Sv s,f] K w func243 h
def Mv(x y)(h:C7 K w x y):=bM (z8 [15,17,19,21,24,27,29,30,32,34,38,39,42,44,46,47,50]) #[.int .u64 x,.int .u64 y] K w func244 h
def XX(x cmp)(h:Mb K w x cmp):=bM (z8 [6]) #[Sv x,cmp] K w func246 h
def XY(a b c d)(h:Mc K w a b c d):=bM {} #[.agg #[Iv a,.int .u64 b],.agg #[Iv c,.int .u64 d]] K w func247 h
def XZ(x y)(h:Md K w x y):=bM (z8 [16,19]) #[.int .u64 x,.int .u64 y] K w func248 h
def X0(id b a)(h:Me K w id b a):=bM (z8 [] [(1,[jQ 11],[8])]) #[Iv id,Pv (some b),Pv (some a)] K w func250 h
def X1(x cmp)(h:Mf K w x cmp):=bM (z8 [6]) #[Sv x,cmp] K w func251 h
def X2(a b c)(h:Mg K w a b c):=bM (z8 [] [(1,[jQ 16],[14])]) #[Iv a,Iv b,Pv (some c)] K w func252 h
def X3(x y)(h:Mh K w x y):=bM (z8 [16,19]) #[Iv x,Iv y] K w func253 h
def X4(c id a b d e f g i j k chain)(h:Mi K w c id a b d e f g i j k chain):=bM (z8 [14,16,29,30,41] [(4,[[0,1,3,4,5,6,7,8,2,9,10]],[2,9]),(11,[jQ 10],[8,9])] [(2,[(15,jZ)])]) #[Pv c,Iv id,.agg #[Iv a,Iv b,Iv d,Iv e,Iv f,Iv g,Iv i,.bool j,.bool k],Sv chain] K w func254 h
def X5(l g)(h:Mj K w l g):=bM (z8 [25] [(4,[jQ 13],[12])]) #[Pv l,Iv g] K w func255 h
def X6(c g)(h:Mk K w c g):=bM {(z8 [29,40] [] [] [(9,[(8,jZ)])]:dO)with goto:=λl=>(bif l==0 then some [(7,.slice)]else none)} #[Pv c,Iv g] K w func257 h
def X7(l x b a)(h:Ml K w l x b a):=bM (z8 [47] [(5,[jQ 13],[12])] [] [(4,[])]) #[Pv l,.int .u64 x,Iv b,Iv a] K w func258 h
def X8(c id a g text dY)(h:Mm K w c id a g text dY):=bM {} #[Pv c,Iv id,Iv a,Iv g,.string text,.bool dY] K w func259 h
def X9(c)(h:Mn K w c):=bM (z8 [10,12,20] [] [(3,[(3,.slice),(11,jZ)])]) #[Pv c] K w func261 h
def Ya(s a b)(h:Mo K w s a b):=bM (z8 [7,15] [(1,[jQ 13],[9])]) #[Pv s,.agg #[Iv a,Iv b]] K w func262 h
def Yb(a b)(h:Mq K w a b):=bM (z8 [8,9,12,13,14,16,21,22,24,26] [] [(4,[(15,jZ)])]) #[.agg #[Iv a,Iv b]] K w func263 h
def Yc(s i)(h:Mr K w s i):=bM (z8 [11,15]) #[Pv s,Iv i] K w func265 h
def Yd(m i on)(h:Ms K w m i on):=bM (z8 [10,17,24,39] [] [] [(3,[])]) #[Pv m,Iv i,.bool on] K w func266 h
def Ye(x)(h:XG K w x):=bM (z8 [5]) #[Iv x] K w func272 h
def Yf(n)(h:Mt K w n):=bM (z8 [4,7]) #[Iv n] K w func273 h
def Mw:dO:={quiet:=λd=>[7,19].contains d,loop:=λr=>(bif r==0 then[]else[])}
def Yg:Nat->Bool:=λd=>[15].contains d
def Yh(yield:bE)(c b a:Addr)(K:bg1)(w:bH):m1 P fF gL cz Mw Yg f274 #[yield,(.pointer (some c)),(.pointer (some b)),(.pointer (some a))] K w=C8 K w yield c b a:=by kernel_rfl
def Yi:m2 P Mw f274 4=true:=by kernel_rfl
def Yj(yield:bE)(c b a:Addr){K:bg1}{w:bH}(h:C8 K w yield c b a):Calls P sy #[yield,(Pv (some c)),(Pv (some b)),(Pv (some a))] w (cA K):=nU mixed func274 Yi (by rw[Yh];exact h)
end Go.Mp
namespace Go.Mp
open Go Go.Vc Go.Proofs
variable{K:bg1}{w:bH}
variable(K w)
def Mx(data:Sl)(n:Int)(cmp:bE):=
 qI 0 20 w λj a5 b6 i=>cond (decide (b6<=n)) (qE CN #[Sv data,Iv a5,Iv b6,cmp] i λk=>(j b6 (i64.wrap (b6+20)) k)) (qE CN #[Sv data,Iv a5,Iv n,cmp] i λl=>qO 20 l λd a e=>ed a n (qI 0 (i64.wrap (2*a)) e λf a20 b c=>cond (decide (b<=n)) (qE uT #[Sv data,Iv a20,Iv (i64.wrap (a20+a)),Iv b,cmp] c λg=>(f b (i64.wrap (b+(i64.wrap (2*a)))) g)) (cond (decide ((i64.wrap (a20+a))<n)) (qE uT #[Sv data,Iv a20,Iv (i64.wrap (a20+a)),Iv n,cmp] c λh=>(d (i64.wrap (a*2)) h)) ((d (i64.wrap (a*2)) c)))) (K aN4 e))
def Yk(x:Int):=
 K (.bool (x !=x)) w
def My(data:Sl)(n:Int)(cmp:bE):=
 qI 0 20 w λj a5 b6 i=>cond (decide (b6<=n)) (qE CO #[Sv data,Iv a5,Iv b6,cmp] i λk=>(j b6 (i64.wrap (b6+20)) k)) (qE CO #[Sv data,Iv a5,Iv n,cmp] i λl=>qO 20 l λd a e=>ed a n (qI 0 (i64.wrap (2*a)) e λf a20 b c=>cond (decide (b<=n)) (qE uU #[Sv data,Iv a20,Iv (i64.wrap (a20+a)),Iv b,cmp] c λg=>(f b (i64.wrap (b+(i64.wrap (2*a)))) g)) (cond (decide ((i64.wrap (a20+a))<n)) (qE uU #[Sv data,Iv a20,Iv (i64.wrap (a20+a)),Iv n,cmp] c λh=>(d (i64.wrap (a*2)) h)) ((d (i64.wrap (a*2)) c)))) (K aN4 e))
def Mz(c:ch)(g:Int):=
 qH Bv #[Pv c,Iv g] w λd b e f a=>K (Iv b) a
def MA(p:ch):=
 NN p λc=>qZ w c 0 λf=>qQ JD #[Pv f,Iv 0,.bool false] w λb a=>ed b 0 (K (.tuple #[Iv (-1),Iv 3]) a) (NN p λd=>qZ a d 0 λg=>qF CF #[Pv g,Iv b,.bool true] a λh e=>K (.tuple #[Iv b,Iv 0]) e)
def MB(c:ch)(chain:Sl)(n:Int):=
 qC #[Iv n] w λh w2=>qD w2 h λC=>qF B6 #[Sv chain,Iv C] w2 λD t=>dX D (K (.tuple #[Iv (-1),Iv 1]) t) (qQ B7 #[Pv c,Sv chain,(.func (.func CP) #[] #[Pv (some h)])] t λf u=>cond (decide (f≥0)) (Dr (λg=>NN c λj=>cM (some (j.add 0)) 64 f 4 λk=>qL g k 2 λv=>NN c λl=>cM (some (l.add 0)) 64 f 4 λm=>St (m.add 2) (Iv (i64.wrap (v+1))) (λq=>K (.tuple #[Iv f,Iv 22]) q) g) u) (qO 0 u λi e a=>fB e chain.n (qW chain e 1 λa22=>qD a a22 λx=>NN c λa24=>cM (some (a24.add 0)) 64 x 4 λa25=>Dr (λb=>NN (some a25) λa27=>qL b a27 0 λy=>qD b h λz=>NN (some a25) λo=>St (o.add 0) (Iv (i64.wrap (y+z))) (λr=>Dr (λd=>NN (some a25) λa33=>qL d a33 3 λA=>NN (some a25) λa35=>qL d a35 0 λB=>NN (some a25) λp=>St (p.add 3) (Iv (ea A B)) (λs=>(i (i64.wrap (e+1)) s)) d) r) b) a) (K (.tuple #[Iv (-1),Iv 0]) a)))
def MC(s:ch)(i:Int)(text:ByteArray):=
 qR sx #[Pv s,Iv i] w λc a=>cond c.isNone (K (Iv 1) a) (cond (((text.size:Nat):Int) !=16) (K (Iv 1) a) (NN c λa4=>∃d:Int,∃b:bH,Sem.run P (Builtin.copy_ #[272,9] 3 #[.slice (nd a4 0 16 1) (16-0) (16-0),.string text]) a=.ok (Iv d) b/\K (Iv 0) b))
def MD(g:Int):=
 cond (decide ((0:Int)<=g)) (K (.bool (decide (g<64))) w) (K aN2 w)
def ME(group clock:Int):=
 ed clock 0 (K (.int .u64 0) w) (qJ CQ #[] w λe b=>qC #[Iv 1,Iv group,Iv (bU .i64 clock 1099511627775)] b λa c=>zB CK #[Sv e,.slice (some a) 3 3] c λf g d=>K (.int .u64 f) d)
def MF(x:Int):=
 qJ CQ #[] w λm k=>zF BZ #[Sv m,.int .u64 x] k λc n b=>qg (λj=>cond (n !=0) (K (.tuple #[Iv 0,Iv 0,.bool false]) b) (qW c 0 1 λd=>qD b d λg=>cond (g !=1) (K (.tuple #[Iv 0,Iv 0,.bool false]) b) (j b))) λl=>Dr (λa=>qW c 1 1 λe=>qD a e λh=>qW c 2 1 λf=>qD a f λi=>K (.tuple #[Iv h,Iv i,.bool true]) a) l
def MG(x clock a:Int):=
 qQ JF #[.int .u64 x,Iv clock] w λc b=>cond (decide ((0:Int)<=c)) (K (.bool (decide (c<=a))) b) (K aN2 b)
def MH(l:ch)(id group:Int)(dY:Bool):=
 qg (λt=>ed id 0 (K (Iv 1) w) (cond (decide (id>16777216)) (K (Iv 1) w) (ed group 0 (K (Iv 1) w) (cond (decide (group>16777216)) (K (Iv 1) w) (t w))))) λw2=>NN l λa4=>qM w2 a4 0 λv=>∃q:Int,∃r:Int,∃s:Bool,gr P 140 (.map v) (Iv id) true w2 (.tuple #[.agg #[Iv q,Iv r],.bool s])/\qw w2 λu h=>qU [Iv q,Iv r] u h λe=>cond s (K (Iv 4) e) (qw e λa i=>qU [Iv group,Iv 0] a i λb=>qg (λd=>cond dY (qL b a 1 λm=>St (a.add 1) (Iv (i64.wrap (m+1))) (λk=>d k) b) (d b)) λj=>Dr (λc=>NN l λg=>qM c g 0 λn=>zZ c a λo p=>∃f:bH,Sem.run P (Instr.mapUpdate 140 (.map n) (Iv id) (.agg #[Iv o,Iv p])) c=.ok () f/\K (Iv 0) f) j)
def MI(a values:Sl):=
 qg (λp=>qp Cq #[Sv a] w λr q i=>dX q (K (.tuple #[.int .u64 0,Iv 1]) i) (cond (((values.n:Nat):Int) !=((a.n:Nat):Int)) (K (.tuple #[.int .u64 0,Iv 1]) i) (p i))) λw2=>zA 0 0 0 w2 λo g b d c=>fB d a.n (qW a d 1 λk=>qD c k λh=>qW values d 1 λl=>qD c l λe=>qg (λj=>ed e 0 (K (.tuple #[.int .u64 0,Iv 1]) c) (zU Cr #[Iv h] c λn f=>cond (decide ((u64.wrap e)>n)) (K (.tuple #[.int .u64 0,Iv 1]) f) (j f))) λm=>0<=b/\(o (iU .u64 g (u64.wrap ((u64.wrap e)*2^(min b.toNat 64)))) (u64.wrap (b+(u64.wrap h))) (i64.wrap (d+1)) m)) (K (.tuple #[.int .u64 g,Iv 0]) c)
def MJ(m:ch)(i:Int):=
 qg (λf=>ed i 0 (K aN2 w) (NN m λa4=>qL w a4 0 λg=>cond (decide (i≥g)) (K aN2 w) (f w))) λw2=>zC CM #[Iv i] w2 λh j b=>NN m λc=>qK b c 1 λe=>qW e h 1 λd=>∃a:Int,b.cell? d=some (.int .u64 a)/\K (.bool ((bU .u64 a j) !=0)) b
def MK(i:Int):=
 0<=(6:Int)/\0<=(u64.wrap (bU .i64 i 63))/\K (.tuple #[Iv (i.fdiv (2^(min (6:Int).toNat 64))),.int .u64 (u64.wrap (1*2^(min (u64.wrap (bU .i64 i 63)).toNat 64)))]) w
def ML(data:Sl)(a b:Int)(cmp:bE):=
 qO (i64.wrap (a+1)) w λh i5 o=>ed i5 b (qO i5 o λA c B=>qg (λi=>Dr (λd=>cond (decide (c>a)) (qW data c 2 λj=>zM d j λr s=>qW data (i64.wrap (c-1)) 2 λk=>zM d k λt u=>eY P cmp #[.agg #[Iv r,.int .u64 s],.agg #[Iv t,.int .u64 u]] d λm f=>∃g,m=.returned (Iv g)/\ed g 0 (i f) ((h (i64.wrap (i5+1)) f))) ((h (i64.wrap (i5+1)) d))) B) λn=>Dr (λe=>qW data (i64.wrap (c-1)) 2 λa25=>zM e a25 λv x=>qW data c 2 λa28=>zM e a28 λy z=>qW data c 2 λl=>qU [Iv v,.int .u64 x] l e λp=>qW data (i64.wrap (c-1)) 2 λa33=>qU [Iv y,.int .u64 z] a33 p λq=>(A (i64.wrap (c-1)) q)) n) (K aN4 o)
def MM(data:Sl)(a m b:Int)(cmp:bE):=
 cond ((i64.wrap (m-a))==1) (qI m b w λT i5 j aj=>ed i5 j (0<=(1:Int)/\Dr (λQ=>qW data (i64.wrap ((u64.wrap (i64.wrap (i5+j))).fdiv (2^(min (1:Int).toNat 64)))) 2 λaL=>zM Q aL λaM ap=>qW data a 2 λW=>zM Q W λaq ar=>eY P cmp #[.agg #[Iv aM,.int .u64 ap],.agg #[Iv aq,.int .u64 ar]] Q λaf z=>∃J,af=.returned (Iv J)/\ed J 0 ((T (i64.wrap ((i64.wrap ((u64.wrap (i64.wrap (i5+j))).fdiv (2^(min (1:Int).toNat 64))))+1)) j z)) ((T i5 (i64.wrap ((u64.wrap (i64.wrap (i5+j))).fdiv (2^(min (1:Int).toNat 64)))) z))) aj) (qO a aj λU d A=>cond (decide (d<(i64.wrap (i5-1)))) (Dr (λl=>qW data (i64.wrap (d+1)) 2 λa23=>zM l a23 λau av=>qW data d 2 λa26=>zM l a26 λaw ax=>qW data d 2 λa29=>qU [Iv au,.int .u64 av] a29 l λak=>qW data (i64.wrap (d+1)) 2 λX=>qU [Iv aw,.int .u64 ax] X ak λal=>(U (i64.wrap (d+1)) al)) A) (K aN4 A))) (cond ((i64.wrap (b-m))==1) (qI a m w λr i37 g B=>ed i37 g (0<=(1:Int)/\Dr (λn=>qW data m 2 λa40=>zM n a40 λay az=>qW data (i64.wrap ((u64.wrap (i64.wrap (i37+g))).fdiv (2^(min (1:Int).toNat 64)))) 2 λY=>zM n Y λaA aB=>eY P cmp #[.agg #[Iv ay,.int .u64 az],.agg #[Iv aA,.int .u64 aB]] n λag C=>∃L,ag=.returned (Iv L)/\cond (!(decide (L<0))) ((r (i64.wrap ((i64.wrap ((u64.wrap (i64.wrap (i37+g))).fdiv (2^(min (1:Int).toNat 64))))+1)) g C)) ((r i37 (i64.wrap ((u64.wrap (i64.wrap (i37+g))).fdiv (2^(min (1:Int).toNat 64)))) C))) B) (qO m B λV e D=>cond (decide (e>i37)) (Dr (λo=>qW data (i64.wrap (e-1)) 2 λZ=>zM o Z λaC aD=>qW data e 2 λaa=>zM o aa λaE aF=>qW data e 2 λab=>qU [Iv aC,.int .u64 aD] ab o λam=>qW data (i64.wrap (e-1)) 2 λa63=>qU [Iv aE,.int .u64 aF] a63 am λcR=>(V (i64.wrap (e-1)) cR)) D) (K aN4 D))) (0<=(1:Int)/\zP (λt=>cond (decide (m>(i64.wrap ((u64.wrap (i64.wrap (a+b))).fdiv (2^(min (1:Int).toNat 64)))))) (t (i64.wrap ((i64.wrap ((i64.wrap ((u64.wrap (i64.wrap (a+b))).fdiv (2^(min (1:Int).toNat 64))))+m))-b)) (i64.wrap ((u64.wrap (i64.wrap (a+b))).fdiv (2^(min (1:Int).toNat 64)))) w) (t a m w)) λh ai an=>qI h ai an λs c f p=>ed c f (0<=(1:Int)/\Dr (λq=>qW data (i64.wrap ((i64.wrap ((i64.wrap ((i64.wrap ((u64.wrap (i64.wrap (a+b))).fdiv (2^(min (1:Int).toNat 64))))+m))-1))-(i64.wrap ((u64.wrap (i64.wrap (c+f))).fdiv (2^(min (1:Int).toNat 64)))))) 2 λad=>zM q ad λaG aH=>qW data (i64.wrap ((u64.wrap (i64.wrap (c+f))).fdiv (2^(min (1:Int).toNat 64)))) 2 λae=>zM q ae λaI aJ=>eY P cmp #[.agg #[Iv aG,.int .u64 aH],.agg #[Iv aI,.int .u64 aJ]] q λah E=>∃M,ah=.returned (Iv M)/\cond (!(decide (M<0))) ((s (i64.wrap ((i64.wrap ((u64.wrap (i64.wrap (c+f))).fdiv (2^(min (1:Int).toNat 64))))+1)) f E)) ((s c (i64.wrap ((u64.wrap (i64.wrap (c+f))).fdiv (2^(min (1:Int).toNat 64)))) E))) p) (qg (λu=>qh (λv=>ed c m (v (decide (m<(i64.wrap ((i64.wrap ((i64.wrap ((u64.wrap (i64.wrap (a+b))).fdiv (2^(min (1:Int).toNat 64))))+m))-c)))) p) (v false p)) λaK G=>cond aK (qE JG #[Sv data,Iv c,Iv m,Iv (i64.wrap ((i64.wrap ((i64.wrap ((u64.wrap (i64.wrap (a+b))).fdiv (2^(min (1:Int).toNat 64))))+m))-c)),cmp] G λao=>u ao) (u G)) λF=>qg (λx=>qh (λy=>ed a c (y (decide (c<(i64.wrap ((u64.wrap (i64.wrap (a+b))).fdiv (2^(min (1:Int).toNat 64)))))) F) (y false F)) λR I=>cond R (qE uT #[Sv data,Iv a,Iv c,Iv (i64.wrap ((u64.wrap (i64.wrap (a+b))).fdiv (2^(min (1:Int).toNat 64)))),cmp] I λN=>x N) (x I)) λH=>qh (λi=>cond (decide ((i64.wrap ((u64.wrap (i64.wrap (a+b))).fdiv (2^(min (1:Int).toNat 64))))<(i64.wrap ((i64.wrap ((i64.wrap ((u64.wrap (i64.wrap (a+b))).fdiv (2^(min (1:Int).toNat 64))))+m))-c)))) (i (decide ((i64.wrap ((i64.wrap ((i64.wrap ((u64.wrap (i64.wrap (a+b))).fdiv (2^(min (1:Int).toNat 64))))+m))-c))<b)) H) (i false H)) λS k=>cond S (qE uT #[Sv data,Iv (i64.wrap ((u64.wrap (i64.wrap (a+b))).fdiv (2^(min (1:Int).toNat 64)))),Iv (i64.wrap ((i64.wrap ((i64.wrap ((u64.wrap (i64.wrap (a+b))).fdiv (2^(min (1:Int).toNat 64))))+m))-c)),Iv b,cmp] k λO=>K aN4 O) (K aN4 k))))
def MN(data:Sl)(a b:Int)(cmp:bE):=
 qO (i64.wrap (a+1)) w λh i5 o=>ed i5 b (qO i5 o λu c v=>qg (λi=>Dr (λd=>cond (decide (c>a)) (qW data c 1 λj=>qD d j λq=>qW data (i64.wrap (c-1)) 1 λk=>qD d k λr=>eY P cmp #[Iv q,Iv r] d λl f=>∃g,l=.returned (Iv g)/\ed g 0 (i f) ((h (i64.wrap (i5+1)) f))) ((h (i64.wrap (i5+1)) d))) v) λm=>Dr (λe=>qW data (i64.wrap (c-1)) 1 λa23=>qD e a23 λs=>qW data c 1 λa25=>qD e a25 λt=>qW data c 1 λa27=>St a27 (Iv s) (λn=>qW data (i64.wrap (c-1)) 1 λa29=>St a29 (Iv t) (λp=>(u (i64.wrap (c-1)) p)) n) e) m) (K aN4 o)
def MO(data:Sl)(a m b:Int)(cmp:bE):=
 cond ((i64.wrap (m-a))==1) (qI m b w λN i5 i ag=>ed i5 i (0<=(1:Int)/\Dr (λM=>qW data (i64.wrap ((u64.wrap (i64.wrap (i5+i))).fdiv (2^(min (1:Int).toNat 64)))) 1 λaB=>qD M aB λaC=>qW data a 1 λR=>qD M R λan=>eY P cmp #[Iv aC,Iv an] M λZ x=>∃I,Z=.returned (Iv I)/\ed I 0 ((N (i64.wrap ((i64.wrap ((u64.wrap (i64.wrap (i5+i))).fdiv (2^(min (1:Int).toNat 64))))+1)) i x)) ((N i5 (i64.wrap ((u64.wrap (i64.wrap (i5+i))).fdiv (2^(min (1:Int).toNat 64)))) x))) ag) (qO a ag λO d y=>cond (decide (d<(i64.wrap (i5-1)))) (Dr (λj=>qW data (i64.wrap (d+1)) 1 λS=>qD j S λao=>qW data d 1 λa23=>qD j a23 λap=>qW data d 1 λa25=>St a25 (Iv ao) (λae=>qW data (i64.wrap (d+1)) 1 λa27=>St a27 (Iv ap) (λaf=>(O (i64.wrap (d+1)) af)) ae) j) y) (K aN4 y))) (cond ((i64.wrap (b-m))==1) (qI a m w λo i33 g z=>ed i33 g (0<=(1:Int)/\Dr (λk=>qW data m 1 λa36=>qD k a36 λaq=>qW data (i64.wrap ((u64.wrap (i64.wrap (i33+g))).fdiv (2^(min (1:Int).toNat 64)))) 1 λT=>qD k T λar=>eY P cmp #[Iv aq,Iv ar] k λaa A=>∃J,aa=.returned (Iv J)/\cond (!(decide (J<0))) ((o (i64.wrap ((i64.wrap ((u64.wrap (i64.wrap (i33+g))).fdiv (2^(min (1:Int).toNat 64))))+1)) g A)) ((o i33 (i64.wrap ((u64.wrap (i64.wrap (i33+g))).fdiv (2^(min (1:Int).toNat 64)))) A))) z) (qO m z λQ e B=>cond (decide (e>i33)) (Dr (λl=>qW data (i64.wrap (e-1)) 1 λU=>qD l U λau=>qW data e 1 λV=>qD l V λav=>qW data e 1 λa53=>St a53 (Iv au) (λah=>qW data (i64.wrap (e-1)) 1 λW=>St W (Iv av) (λai=>(Q (i64.wrap (e-1)) ai)) ah) l) B) (K aN4 B))) (0<=(1:Int)/\zP (λq=>cond (decide (m>(i64.wrap ((u64.wrap (i64.wrap (a+b))).fdiv (2^(min (1:Int).toNat 64)))))) (q (i64.wrap ((i64.wrap ((i64.wrap ((u64.wrap (i64.wrap (a+b))).fdiv (2^(min (1:Int).toNat 64))))+m))-b)) (i64.wrap ((u64.wrap (i64.wrap (a+b))).fdiv (2^(min (1:Int).toNat 64)))) w) (q a m w)) λh ad aj=>qI h ad aj λp c f cR=>ed c f (0<=(1:Int)/\Dr (λn=>qW data (i64.wrap ((i64.wrap ((i64.wrap ((i64.wrap ((u64.wrap (i64.wrap (a+b))).fdiv (2^(min (1:Int).toNat 64))))+m))-1))-(i64.wrap ((u64.wrap (i64.wrap (c+f))).fdiv (2^(min (1:Int).toNat 64)))))) 1 λX=>qD n X λaw=>qW data (i64.wrap ((u64.wrap (i64.wrap (c+f))).fdiv (2^(min (1:Int).toNat 64)))) 1 λY=>qD n Y λax=>eY P cmp #[Iv aw,Iv ax] n λab C=>∃L,ab=.returned (Iv L)/\cond (!(decide (L<0))) ((p (i64.wrap ((i64.wrap ((u64.wrap (i64.wrap (c+f))).fdiv (2^(min (1:Int).toNat 64))))+1)) f C)) ((p c (i64.wrap ((u64.wrap (i64.wrap (c+f))).fdiv (2^(min (1:Int).toNat 64)))) C))) cR) (qg (λr=>qh (λs=>ed c m (s (decide (m<(i64.wrap ((i64.wrap ((i64.wrap ((u64.wrap (i64.wrap (a+b))).fdiv (2^(min (1:Int).toNat 64))))+m))-c)))) cR) (s false cR)) λay E=>cond ay (qE JH #[Sv data,Iv c,Iv m,Iv (i64.wrap ((i64.wrap ((i64.wrap ((u64.wrap (i64.wrap (a+b))).fdiv (2^(min (1:Int).toNat 64))))+m))-c)),cmp] E λak=>r ak) (r E)) λD=>qg (λt=>qh (λu=>ed a c (u (decide (c<(i64.wrap ((u64.wrap (i64.wrap (a+b))).fdiv (2^(min (1:Int).toNat 64)))))) D) (u false D)) λaz G=>cond az (qE uU #[Sv data,Iv a,Iv c,Iv (i64.wrap ((u64.wrap (i64.wrap (a+b))).fdiv (2^(min (1:Int).toNat 64)))),cmp] G λal=>t al) (t G)) λF=>qh (λv=>cond (decide ((i64.wrap ((u64.wrap (i64.wrap (a+b))).fdiv (2^(min (1:Int).toNat 64))))<(i64.wrap ((i64.wrap ((i64.wrap ((u64.wrap (i64.wrap (a+b))).fdiv (2^(min (1:Int).toNat 64))))+m))-c)))) (v (decide ((i64.wrap ((i64.wrap ((i64.wrap ((u64.wrap (i64.wrap (a+b))).fdiv (2^(min (1:Int).toNat 64))))+m))-c))<b)) F) (v false F)) λaA H=>cond aA (qE uU #[Sv data,Iv (i64.wrap ((u64.wrap (i64.wrap (a+b))).fdiv (2^(min (1:Int).toNat 64)))),Iv (i64.wrap ((i64.wrap ((i64.wrap ((u64.wrap (i64.wrap (a+b))).fdiv (2^(min (1:Int).toNat 64))))+m))-c)),Iv b,cmp] H λam=>K aN4 am) (K aN4 H))))
def MP(m:ch)(a:Int)(on:Bool):=
 NN m λq=>qK w q 1 λs=>qO 0 w λn b e=>fB b s.n (NN m λr=>qK e r 1 λt=>qW t b 1 λo=>∃f:Int,e.cell? o=some (.int .u64 f)/\q9 (λg=>dX on (g (oq .u64 f) e) (g f e)) λi c=>q9 (λh=>0<=(6:Int)/\cond (decide ((i64.wrap ((ea a 0)-(i64.wrap (b*2^(min (6:Int).toNat 64)))))≥64)) ((n (i64.wrap (b+1)) c)) (cond (decide ((i64.wrap ((ea a 0)-(i64.wrap (b*2^(min (6:Int).toNat 64)))))>0)) (0<=(u64.wrap (i64.wrap ((ea a 0)-(i64.wrap (b*2^(min (6:Int).toNat 64))))))/\0<=(u64.wrap (i64.wrap ((ea a 0)-(i64.wrap (b*2^(min (6:Int).toNat 64))))))/\h (u64.wrap ((i.fdiv (2^(min (u64.wrap (i64.wrap ((ea a 0)-(i64.wrap (b*2^(min (6:Int).toNat 64)))))).toNat 64)))*2^(min (u64.wrap (i64.wrap ((ea a 0)-(i64.wrap (b*2^(min (6:Int).toNat 64)))))).toNat 64))) c) (h i c))) λk j=>cond (k==0) ((n (i64.wrap (b+1)) j)) (0<=(6:Int)/\qQ JI #[.int .u64 k] j λl d=>NN m λa23=>qL d a23 0 λp=>cond (decide ((i64.wrap ((i64.wrap (b*2^(min (6:Int).toNat 64)))+l))<p)) (K (Iv (i64.wrap ((i64.wrap (b*2^(min (6:Int).toNat 64)))+l))) d) ((n (i64.wrap (b+1)) d)))) (K (Iv (-1)) e)
def MQ(c d e f:Int)(a:Addr):=
 Al (.cells #[Iv c,Iv d,Iv e,Iv f] 107) (λb w2=>qD w2 a λg=>cond (decide (g>0)) (qL w2 b 0 λh=>qD w2 a λi=>qL w2 b 1 λj=>K (.bool (decide ((i64.wrap (h+i))>j))) w2) (K aN2 w2)) w
def MR:=
 qC #[Iv 1,Iv 8,Iv 40] w λa w2=>K (.slice (some a) 3 3) w2
def MS(x clock:Int):=
 zO CJ #[.int .u64 x] w λd b c a=>dX c (K (Iv (-1)) a) (ed clock 0 (K (Iv (-1)) a) (K (Iv (bU .i64 (i64.wrap (clock-b)) 1099511627775)) a))
def MT(data:Sl)(a m b:Int)(cmp:bE):=
 qI (i64.wrap (m-a)) (i64.wrap (b-m)) w λe i5 c d=>cond (i5 !=c) (cond (decide (i5>c)) (qE xT #[Sv data,Iv (i64.wrap (m-i5)),Iv m,Iv c,cmp] d λg=>(e (i64.wrap (i5-c)) c g)) (qE xT #[Sv data,Iv (i64.wrap (m-i5)),Iv (i64.wrap ((i64.wrap (m+c))-i5)),Iv i5,cmp] d λh=>(e i5 (i64.wrap (c-i5)) h))) (qE xT #[Sv data,Iv (i64.wrap (m-i5)),Iv m,Iv i5,cmp] d λf=>K aN4 f)
def MU(data:Sl)(a m b:Int)(cmp:bE):=
 qI (i64.wrap (m-a)) (i64.wrap (b-m)) w λe i5 c d=>cond (i5 !=c) (cond (decide (i5>c)) (qE xU #[Sv data,Iv (i64.wrap (m-i5)),Iv m,Iv c,cmp] d λg=>(e (i64.wrap (i5-c)) c g)) (qE xU #[Sv data,Iv (i64.wrap (m-i5)),Iv (i64.wrap ((i64.wrap (m+c))-i5)),Iv i5,cmp] d λh=>(e i5 (i64.wrap (c-i5)) h))) (qE xU #[Sv data,Iv (i64.wrap (m-i5)),Iv m,Iv i5,cmp] d λf=>K aN4 f)
def MV(x:Int):=
 cond (x==0) (K (Iv 64) w) (0<=(58:Int)/\cM (some (⟨2,0,none⟩:Addr)) 64 ((u64.wrap ((bU .u64 x (u64.wrap (0-x)))*285870213051353865)).fdiv (2^(min (58:Int).toNat 64))) 1 λb=>∃a:Int,w.cell? b=some (.int .u8 a)/\K (Iv (i64.wrap a)) w)
def MW(data:Sl)(a b n:Int)(cmp:bE):=
 qO 0 w λl i5 i=>ed i5 n (Dr (λc=>qW data (i64.wrap (b+i5)) 2 λm=>zM c m λo p=>qW data (i64.wrap (a+i5)) 2 λd=>zM c d λj k=>qW data (i64.wrap (a+i5)) 2 λe=>qU [Iv o,.int .u64 p] e c λg=>qW data (i64.wrap (b+i5)) 2 λf=>qU [Iv j,.int .u64 k] f g λh=>(l (i64.wrap (i5+1)) h)) i) (K aN4 i)
def MX(data:Sl)(a b n:Int)(cmp:bE):=
 qO 0 w λj i5 h=>ed i5 n (Dr (λc=>qW data (i64.wrap (b+i5)) 1 λk=>qD c k λl=>qW data (i64.wrap (a+i5)) 1 λa9=>qD c a9 λi=>qW data (i64.wrap (a+i5)) 1 λd=>St d (Iv l) (λf=>qW data (i64.wrap (b+i5)) 1 λe=>St e (Iv i) (λg=>(j (i64.wrap (i5+1)) g)) f) c) h) (K aN4 h)
variable{K w}
def Yl(data n cmp)(h:Mx K w data n cmp):=bM (z8 [13,22,30,32,35,40,47,48,51,54,62] [] [(2,[(7,jZ),(8,jZ)]),(7,[(6,jZ)]),(9,[(7,jZ),(8,jZ)])]) #[Sv data,Iv n,cmp] K w func276 h
def Ym(x)(h:Yk K w x):=bM (z8 [5]) #[.int .u64 x] K w func277 h
def Yn(data n cmp)(h:My K w data n cmp):=bM (z8 [13,22,30,32,35,40,47,48,51,54,62] [] [(2,[(7,jZ),(8,jZ)]),(7,[(6,jZ)]),(9,[(7,jZ),(8,jZ)])]) #[Sv data,Iv n,cmp] K w func279 h
def Yo(c g)(h:Mz K w c g):=bM {} #[Pv c,Iv g] K w func280 h
def Yp(p)(h:MA K w p):=bM (z8 [11]) #[Pv p] K w func281 h
def Yq(c chain n)(h:MB K w c chain n):=bM (z8 [21,29,36,38,51,63,66] [(5,[jQ 13],[12]),(11,[jQ 9],[8]),(12,[jQ 13],[12])] [(8,[(37,jZ)])]) #[Pv c,Sv chain,Iv n] K w func282 h
def Yr(s i text)(h:MC K w s i text):=bM (z8 [12,15,16]) #[Pv s,Iv i,.string text] K w func283 h
def Ys(g)(h:MD K w g):=bM (z8 [4,7]) #[Iv g] K w func284 h
def Yt(group clock)(h:ME K w group clock):=bM (z8 [8,13]) #[Iv group,Iv clock] K w func285 h
def Yu(x)(h:MF K w x):=bM {(z8 [14,19] [] [] [(4,[])]:dO)with head:=λr=>(bif r==4 then 9 else 0)} #[.int .u64 x] K w func286 h
def Yv(x clock a)(h:MG K w x clock a):=bM (z8 [12,16]) #[.int .u64 x,Iv clock,Iv a] K w func287 h
def Yw(l id group dY)(h:MH K w l id group dY):=bM (z8 [13,16,20,24,41] [(9,[jQ 7],[6])] [] [(3,[]),(9,[])]) #[Pv l,Iv id,Iv group,.bool dY] K w func288 h
def Yx(a values)(h:MI K w a values):=bM (z8 [22,24,25,28,30,39,42,45,49,51,52,55,56,57] [] [(6,[(8,.int .u64),(9,.int .u64),(29,jZ)])] [(4,[]),(11,[])]) #[Sv a,Sv values] K w func291 h
def Yy(m i)(h:MJ K w m i):=bM (z8 [8,15,30,31] [] [] [(3,[])]) #[Pv m,Iv i] K w func293 h
def Yz(i)(h:MK K w i):=bM (z8 [5,7,8,9]) #[Iv i] K w func294 h
def YA(data a b cmp)(h:ML K w data a b cmp):=bM {(z8 [11,14,16,20,29,33,36,41,44] [(4,[jQ 17],[14]),(6,[jQ 18],[15,17])] [(1,[(8,jZ)]),(4,[(9,jZ)])] [(6,[])]:dO)with dyn:=λd=>[32].contains d} #[Sv data,Iv a,Iv b,cmp] K w func296 h
def YB(data a m b cmp)(h:MM K w data a m b cmp):=bM {(z8 [27,28,33,36,37,38,39,50,52,57,58,60,65,68,79,80,85,88,89,90,91,102,105,110,112,117,120,131,132,133,134,137,140,143,148,151,154,155,156,157,162,170,173,177,180,184,194,198,208,212] [(5,[jQ 11],[9]),(11,[jQ 18],[15,17]),(17,[jQ 12],[9]),(23,[jQ 18],[15,17]),(35,[jQ 14],[11])] [(3,[(10,jZ),(11,jZ)]),(9,[(13,jZ)]),(15,[(14,jZ),(15,jZ)]),(21,[(17,jZ)]),(33,[(20,jZ),(21,jZ)])] [(32,[(20,jZ),(21,jZ)]),(40,[(185,.bool)]),(41,[]),(42,[(199,.bool)]),(43,[]),(44,[(213,.bool)])]:dO)with dyn:=λd=>[49,101,169].contains d} #[Sv data,Iv a,Iv m,Iv b,cmp] K w func297 h
def YC(data a b cmp)(h:MN K w data a b cmp):=bM {(z8 [11,14,16,20,29,33,36,41,44] [(4,[jQ 17],[14]),(6,[jQ 18],[15,17])] [(1,[(8,jZ)]),(4,[(9,jZ)])] [(6,[])]:dO)with dyn:=λd=>[32].contains d} #[Sv data,Iv a,Iv b,cmp] K w func298 h
def YD(data a m b cmp)(h:MO K w data a m b cmp):=bM {(z8 [27,28,33,36,37,38,39,50,52,57,58,60,65,68,79,80,85,88,89,90,91,102,105,110,112,117,120,131,132,133,134,137,140,143,148,151,154,155,156,157,162,170,173,177,180,184,194,198,208,212] [(5,[jQ 11],[9]),(11,[jQ 18],[15,17]),(17,[jQ 12],[9]),(23,[jQ 18],[15,17]),(35,[jQ 14],[11])] [(3,[(10,jZ),(11,jZ)]),(9,[(13,jZ)]),(15,[(14,jZ),(15,jZ)]),(21,[(17,jZ)]),(33,[(20,jZ),(21,jZ)])] [(32,[(20,jZ),(21,jZ)]),(40,[(185,.bool)]),(41,[]),(42,[(199,.bool)]),(43,[]),(44,[(213,.bool)])]:dO)with dyn:=λd=>[49,101,169].contains d} #[Sv data,Iv a,Iv m,Iv b,cmp] K w func299 h
def YE(m a on)(h:MP K w m a on):=bM (z8 [12,17,19,34,35,38,41,44,45,47,48,50,52,55,61,63] [] [(3,[(18,jZ)])] [(8,[(8,.int .u64)]),(12,[(8,.int .u64)])]) #[Pv m,Iv a,.bool on] K w func300 h
def YF(b c d e a)(h:MQ K w b c d e a):=bM (z8 [5,10,13]) #[.agg #[Iv b,Iv c,Iv d,Iv e],Pv (some a)] K w func301 h
def YG(h:MR K w):=bM {} #[] K w func302 h
def YH(x clock)(h:MS K w x clock):=bM (z8 [18,22,23]) #[.int .u64 x,Iv clock] K w func303 h
def YI(data a m b cmp)(h:MT K w data a m b cmp):=bM (z8 [14,17,20,23,27,34,38,41,43,49,53] [] [(2,[(10,jZ),(11,jZ)])]) #[Sv data,Iv a,Iv m,Iv b,cmp] K w func306 h
def YJ(data a m b cmp)(h:MU K w data a m b cmp):=bM (z8 [14,17,20,23,27,34,38,41,43,49,53] [] [(2,[(10,jZ),(11,jZ)])]) #[Sv data,Iv a,Iv m,Iv b,cmp] K w func307 h
def YK(x)(h:MV K w x):=bM (z8 [4,8,9,10,13]) #[.int .u64 x] K w func308 h
def YL(data a b n cmp)(h:MW K w data a b n cmp):=bM (z8 [13,15,19,23,27,33] [(3,[jQ 24],[21,23])] [(1,[(10,jZ)])]) #[Sv data,Iv a,Iv b,Iv n,cmp] K w func309 h
def YM(data a b n cmp)(h:MX K w data a b n cmp):=bM (z8 [13,15,19,23,27,33] [(3,[jQ 24],[21,23])] [(1,[(10,jZ)])]) #[Sv data,Iv a,Iv b,Iv n,cmp] K w func310 h
end Go.Mp
namespace Go.Kc
open Go Go.Vc
def nA(n:Int):u64.wrap n=n%18446744073709551616:=by
 unfold IntKind.wrap;simp[IntKind.signed,IntKind.bits]
def ds{n:Nat}(h:n<18446744073709551616:=by omega):u64.wrap (n:Int)=(n:Int):=by rw[nA];omega
def Db(n:Nat):u64.wrap (n:Int)=((n%18446744073709551616:Nat):Int):=by rw[nA];omega
def pC(a:Nat)(h:a<18446744073709551616):(BitVec.ofInt 64 (a:Int)).toNat=a:=by
 rw[pX,tw];exact mI bu
def sF{a b:Nat}(c:a<18446744073709551616)(hb:b<18446744073709551616):bU .u64 (a:Int) (b:Int)=((a &&& b:Nat):Int):=by
 show u64.wrap ((BitVec.ofInt 64 (a:Int) &&& BitVec.ofInt 64 (b:Int)).toNat:Int)=_;rw[wc,pC a c,pC b hb];exact ds (Nat.and_lt_two_pow (n:=64) _ hb)
def uW{a b:Nat}(c:a<18446744073709551616)(hb:b<18446744073709551616):iU .u64 (a:Int) (b:Int)=((a ||| b:Nat):Int):=by
 show u64.wrap ((BitVec.ofInt 64 (a:Int) ||| BitVec.ofInt 64 (b:Int)).toNat:Int)=_;rw[BitVec.toNat_or,pC a c,pC b hb];exact ds (Nat.or_lt_two_pow (n:=64) c hb)
def YN{a b:Nat}(c:a<18446744073709551616)(hb:b<18446744073709551616):oo .u64 (a:Int) (b:Int)=((a ^^^ b:Nat):Int):=by
 show u64.wrap ((BitVec.ofInt 64 (a:Int) ^^^ BitVec.ofInt 64 (b:Int)).toNat:Int)=_;rw[BitVec.toNat_xor,pC a c,pC b hb];exact ds (F7 (n:=64) c hb)
def YO{a:Nat}(b:a<18446744073709551616):oq .u64 (a:Int)=((18446744073709551615 ^^^ a:Nat):Int):=by
 show u64.wrap ((BitVec.ofInt 64 ((18446744073709551615:Nat):Int) ^^^ BitVec.ofInt 64 (a:Int)).toNat:Int)=_;rw[BitVec.toNat_xor,pC a b,pC _ bu];exact ds (F7 (n:=64) bu b)
def sh(n k:Nat):(n:Int).fdiv (2^k)=((n/2^k:Nat):Int):=by
 rw[Ta _ (by exact_mod_cast e7 (2^k))]
 exact_mod_cast rfl
def wd:bA Bool->Nat
 |[]=>0
 |b::r=>b.toNat+2*wd r
def x3:∀(l:bA Bool) (k:Nat),(wd l).testBit k=l.getD k false
 |[],k=>by simp[wd]
 |b::r,0=>by
  unfold wd;rw[Nat.testBit_zero];cases b<;>simp
 |b::r,k+1=>by
  unfold wd;rw[Nat.testBit_succ,show(b.toNat+2*wd r)/2=wd r by cases b<;>simp<;>omega,x3 r k];simp
def MY:∀(l:bA Bool),wd l<2^l.length
 |[]=>by simp[wd]
 |b::r=>by
  have:=MY r;unfold wd;rw[hI,p3];have:b.toNat<=1:=by cases b<;>simp
  omega
def YP{l:bA Bool}(h:l.length<=64):wd l<18446744073709551616:=
 lG (MY l) (tu bN h)
def YQ{l:bA Bool}{k:Nat}:wd l &&& 2^k=if l.getD k false then 2^k else 0:=by
 rw[<- x3];apply vX;intro i;rw[Nat.testBit_and,rI];by_cases e:k=i
 ·subst e;cases h:(wd l).testBit k<;>simp
 ·rw[di e,rL];split;·rw[rI,di e]
  ·simp
def YR{y:Nat}(a:y≠0)(h:y<18446744073709551616):Lib.ctz 64 y<64/\y.testBit (Lib.ctz 64 y)=true/\∀i,i<Lib.ctz 64 y->y.testBit i=false:=by
 unfold Lib.ctz;rw[bJ a];obtain⟨m,hm,hl⟩:=Lib.ctzFrom_spec 64 y bu (by simpa using h);generalize Lib.ctzFrom 64 y=c at*
 refine⟨hl,?_,λi b=>?_⟩;·rw[hm,Nat.testBit_two_pow_mul];simp
 ·rw[hm,Nat.testBit_two_pow_mul];simp;omega
def YS{a i:Nat}(b:i<64):(18446744073709551615 ^^^ a).testBit i= !a.testBit i:=by
 rw[Nat.testBit_xor,show(18446744073709551615:Nat)=2^64-1 by decide,Nat.testBit_two_pow_sub_one,dE b];cases a.testBit i<;>rfl
def YT(x a:Nat)(hx:x<18446744073709551616)(d:x≠0)(b:x &&& (18446744073709551616-x)=a):
  (u64.wrap ((bU .u64 (x:Int) (u64.wrap (0-(x:Int))))*285870213051353865)).fdiv (2^(min (58:Int).toNat 64))=((a*285870213051353865%18446744073709551616/288230376151711744:Nat):Int):=by
 have c:u64.wrap (0-(x:Int))=((18446744073709551616-x:Nat):Int):=by rw[nA];omega
 rw[c,sF hx bu,b,show((a:Int)*285870213051353865)=((a*285870213051353865:Nat):Int) by omega,Db];exact sh _ 58
end Go.Kc
namespace Go.Sp
open Go Go.Vc
section
variable{E:Env}{L:cv}{w:bH}{P:cP}
def Sep.putObj{b:Nat}{o o':Obj}(h:Sep E (c8 b o::L) w):Sep E (c8 b o'::L) (w.putObj b o'):=by
 have hb:=h.dk;have c:b<w.heap.size:=(oZ.1 hb).1;refine h.change (A':=c8 b o') rfl (by simp) (λF a hl=>⟨λx _ d=>?_,F,⟨?_,a.2⟩,λx hx=>⟨?_,.inl hx⟩⟩);·exact World.putObj_heap_other (λe=>d ((a.2 x).2 e))
 ·exact World.putObj_heap_same c
 ·simpa using hl x hx
def lf.i{l:Nat}{r:Loop}{f:bg0}(h:Sep E (c8 l (.loop r)::L) w)(hr:r.state=.ready)(k:∀a,Sep E (c8 l (.loop {r with state:=.busy})::L) a->f a):lf l f w:=
 ⟨r,h.dk,hr,k _ h.putObj⟩
def e2.i{l:Nat}{r:Loop}{j:bW Code}{R:Ending->bg0}(h:Sep E (c8 l (.loop r)::L) w)(k:∀a,Sep E (c8 l (.loop {r with state:=if j.isNone then .ready else .done,pending:=j})::L) a->R (.returned (.bool j.isNone)) a):e2 l j R w:=
 ⟨r,h.dk,k _ h.putObj⟩
def Dc(P:cP)(E:Env)(f:bg7)(b:bE->cb bE)(A A' S:Asn)(xs:bA bE):Prop:=
 ∀(l:Nat) (J X:Nat->Asn),(∀L k x W,xs[k]?=some x->Sep E (J k::S::L) W->YieldAt Fence.wide 0 P l #[x] W (λe a=>
   (e=.returned (.bool true)/\Sep E (J (k+1)::S::L) a)\/(e=.returned (.bool false)/\Sep E (X k::S::L) a)))->
  ∀L W,Sep E (J 0::S::A::L) W->Calls P f (b (.func (.yield l) #[] #[])) W (λe a=>(∃v,e=.returned v)/\(Sep E (J xs.length::S::A'::L) a\/∃k,k<xs.length/\Sep E (X k::S::A'::L) a))
def iy.Dd{τ:cf->K1}{ρ:cf->Kd}{cz:bg7->Bool}{An:dO}{yl:Nat->Bool}{N p:Nat}{f:bg7}{fi ca:cb bE}{H:bE->cb bE}{A A' S:Asn}{xs:bA bE}{a body c:Code}{T:Tr}{done ret:Nat->bg0}(K:∀y,H y=fi++ #[y]++ca)(hm:P.follows .mixedOrders=true)(V:N<=8000)(hp:p<N)(q:gK P N An a=true/\gK P N An body=true)(hf:kN P f=true)(Z:Dc P E f H A A' S xs)(g D:Nat->Asn)(m:∀(l:Nat) (r:Loop) L k x W R,r.state=.ready->r.pending=none->xs[k]?=some x->Sep E (c8 l (.loop r)::g k::S::L) W->(∀d,Sep E (c8 l (.loop r)::g (k+1)::S::L) d->R (.returned (.bool true)) d)->
   (∀d,Sep E (c8 l (.loop {r with state:=.done,pending:=some c})::D k::S::L) d->R (.returned (.bool false)) d)->mo P τ ρ cz An yl N l a body (lj [(p,x)] T) W R)(h:Sep E (g 0::S::A::L) w)(n:∀b W,Sep E (c8 b (.deferred (some []))::g xs.length::S::A'::L) W->done b W)(F:∀b k W,k<xs.length->Sep E (c8 b (.deferred (some []))::D k::S::A'::L) W->ret b W):iy P N (.func (.func f) fi ca) #[p] a body c T w done ret:=by
 refine⟨f,fi,ca,_,rfl,K _,hf,λfn G M Q=>?_⟩;have h1:=h.nu (.deferred (some []));have h2:=h1.nu (.loop (si fn G #[p] a body w.heap.size));rw[size_alloc]at h2;generalize hr:si fn G #[p] a body w.heap.size=r at h2 ⊢;have s:r.state=.ready:=by rw[<- hr];rfl
 have u:r.pending=none:=by rw[<- hr];rfl
 have j:r.params= #[p]:=by rw[<- hr];rfl
 have z:r.tmps=G:=by rw[<- hr];rfl
 have B:r.assign=a:=by rw[<- hr];rfl
 have C:r.body=body:=by rw[<- hr];rfl
 generalize w.heap.size=b at h2 ⊢;have U:Sep E (star (c8 (b+1) (.loop r)) (star (c8 b (.deferred (some []))) (g 0))::S::A::L) ((w.alloc (.deferred (some []))).alloc (.loop r)):=
  Sep.star.2 ((Sep.star.2 ((h2.ro 3 [1,2,0] rfl))).swap)
 refine Calls.mono (Z (b+1) (λk=>star (c8 (b+1) (.loop r)) (star (c8 b (.deferred (some []))) (g k))) (λk=>star (c8 (b+1) (.loop {r with state:=.done,pending:=some c})) (star (c8 b (.deferred (some []))) (D k)))
  (λL' k x W hx Y=>?_) L _ U) (λe d he=>?_)
 ·have J:=Sep.star.1 ((Sep.star.1 Y).swap);have o:Sep E (c8 (b+1) (.loop r)::g k::S::c8 b (.deferred (some []))::L') W:=J.ro 4 [2,1,3,0] rfl;refine Vh (τ:=τ) (ρ:=ρ) (cz:=cz) (A:=An) (yl:=yl) (N:=N) (T:=T) hm V o.dk (by rw[j];rfl) (by rw[z];exact M) (by rw[z];exact Q) (λt O=>?_) (by rw[B];exact q.1) (by rw[C];exact q.2) ?_
  ·rw[j]at O;have:t=p:=by simpa using O
   rw[this];exact hp
  ·have aa:(r.params.zip #[x]).toList= [(p,x)]:=by rw[j,Array.toList_zip];rfl
   have key:∀R,mo P τ ρ cz An yl N (b+1) a body (lj [(p,x)] T) W R->mo P τ ρ cz An yl N (b+1) r.assign r.body (lj (r.params.zip #[x]).toList T) W R:=by
    intro R X;rw[aa,B,C];exact X
   refine key _ (m (b+1) r _ k x W _ s u hx o (λd h'=>.inl ⟨rfl,?_⟩) (λd h'=>.inr ⟨rfl,?_⟩));·exact Sep.star.2 ((Sep.star.2 (h'.ro 4 [3,1,0,2] rfl)).swap)
   ·exact Sep.star.2 ((Sep.star.2 (h'.ro 4 [3,1,0,2] rfl)).swap)
 ·obtain⟨⟨v,rfl⟩,he⟩:=he;rcases he with he|⟨k,hk,he⟩
  ·have i:=Sep.star.1 he;refine⟨r,i.dk,by rw[s];simp,?_⟩;have I:=(i.putObj (o':=.loop {r with state:=.exhausted})).tail;generalize d.putObj (b+1) (.loop {r with state:=.exhausted})=ab at I ⊢;rw[u];exact n _ _ (Sep.star.1 I)
  ·have i:=Sep.star.1 he;exact⟨_,i.dk,by simp,rfl,F _ k _ hk (Sep.star.1 (i.putObj).tail)⟩
def x4(P:cP)(E:Env)(f:bg7)(b:bE->cb bE)(A A':Asn)(xs:bA bE):Prop:=
 ∀(l:Nat) (J X:Nat->Asn),(∀L k x W,xs[k]?=some x->Sep E (J k::L) W->YieldAt Fence.wide 0 P l #[x] W (λe a=>
   (e=.returned (.bool true)/\Sep E (J (k+1)::L) a)\/(e=.returned (.bool false)/\Sep E (X k::L) a)))->
  ∀L W,Sep E (J 0::A::L) W->Calls P f (b (.func (.yield l) #[] #[])) W (λe a=>(∃v,e=.returned v)/\(Sep E (J xs.length::A'::L) a\/∃k,k<xs.length/\Sep E (X k::A'::L) a))
abbrev De(P:cP)(E:Env)(f:bg7)(ca:cb bE)(A A':Asn)(xs:bA bE):Prop:=x4 P E f (λy=> #[y]++ca) A A' xs
def iy.iO{τ:cf->K1}{ρ:cf->Kd}{cz:bg7->Bool}{An:dO}{yl:Nat->Bool}{N p:Nat}{f:bg7}{fi ca:cb bE}{t:bE->cb bE}{A A':Asn}{xs:bA bE}{j body c:Code}{T:Tr}{done ret:Nat->bg0}(has:∀y,t y=fi++ #[y]++ca)(hm:P.follows .mixedOrders=true)(D:N<=8000)(hp:p<N)(u:gK P N An j=true/\gK P N An body=true)(hf:kN P f=true)(G:x4 P E f t A A' xs)(a o:Nat->Asn)(m:∀(l:Nat) (r:Loop) L k x W R,r.state=.ready->r.pending=none->xs[k]?=some x->Sep E (c8 l (.loop r)::a k::L) W->(∀i,Sep E (c8 l (.loop r)::a (k+1)::L) i->R (.returned (.bool true)) i)->
   (∀i,Sep E (c8 l (.loop {r with state:=.done,pending:=some c})::o k::L) i->R (.returned (.bool false)) i)->mo P τ ρ cz An yl N l j body (lj [(p,x)] T) W R)(h:Sep E (a 0::A::L) w)(n:∀b W,Sep E (c8 b (.deferred (some []))::a xs.length::A'::L) W->done b W)(s:∀b k W,k<xs.length->Sep E (c8 b (.deferred (some []))::o k::A'::L) W->ret b W):iy P N (.func (.func f) fi ca) #[p] j body c T w done ret:=
 iy.Dd (S:=emp) (A:=A) (A':=A') (xs:=xs) has hm D hp u hf
  (λl J X F L W h=>(G l J X (λL k x W hx h=>(F L k x W hx (Sep.emp.2 h).swap).imp λ_ ⟨b,c,d,e,g⟩=>⟨b,c,d,e,g.mono λ_ _ he=>he.imp (λq=>⟨q.1,Sep.emp.1 q.2.swap⟩) (λq=>⟨q.1,Sep.emp.1 q.2.swap⟩)⟩) L W (Sep.emp.1 h.swap)).mono
   λ_ _ he=>⟨he.1,he.2.imp (λq=>(Sep.emp.2 q).swap) (λ⟨k,hk,q⟩=>⟨k,hk,(Sep.emp.2 q).swap⟩)⟩)
  a o (λl r L k x W R h1 h2 v z B C=>m l r (emp::L) k x W R h1 h2 v z B C) (Sep.emp.2 h).swap (λb W q=>n b W (q.ro 3 [0,1] rfl)) (λb k W hk q=>s b k W hk (q.ro 3 [0,1] rfl))
def iy.i{τ:cf->K1}{ρ:cf->Kd}{cz:bg7->Bool}{An:dO}{yl:Nat->Bool}{N p:Nat}{f:bg7}{ca:cb bE}{A A':Asn}{xs:bA bE}{e body c:Code}{T:Tr}{done ret:Nat->bg0}(hm:P.follows .mixedOrders=true)(o:N<=8000)(hp:p<N)(n:gK P N An e=true/\gK P N An body=true)(hf:kN P f=true)(q:De P E f ca A A' xs)(a j:Nat->Asn)(g:∀(l:Nat) (r:Loop) L k x W R,r.state=.ready->r.pending=none->xs[k]?=some x->Sep E (c8 l (.loop r)::a k::L) W->(∀d,Sep E (c8 l (.loop r)::a (k+1)::L) d->R (.returned (.bool true)) d)->
   (∀d,Sep E (c8 l (.loop {r with state:=.done,pending:=some c})::j k::L) d->R (.returned (.bool false)) d)->mo P τ ρ cz An yl N l e body (lj [(p,x)] T) W R)(h:Sep E (a 0::A::L) w)(i:∀b W,Sep E (c8 b (.deferred (some []))::a xs.length::A'::L) W->done b W)(m:∀b k W,k<xs.length->Sep E (c8 b (.deferred (some []))::j k::A'::L) W->ret b W):iy P N (.func (.func f) #[] ca) #[p] e body c T w done ret:=
 iy.iO (fi:= #[]) (λy=>by simp) hm o hp n hf q a j g h i m
end
end Go.Sp
namespace Go.Sp
open Go Go.Vc Go.RowKit Go.ChangeShapes
def Rd(P:cP)(W:bH)(t:cf)(cs:bA bE):Prop:=
 ∃(H:Type) (enc:cf×bE->H) (fuel:Nat) (x:DataW H×bA MemPlace),DataW.trod enc P W 0 (λ_=>true) true fuel t cs=some x
section
variable{P:cP}{W:bH}{t:cf}{cs:bA bE}
def Rd.int{k:IntKind}(h:Rd P W t cs)(a:P.underlying t=some (.int k)):∃n,cs= [.int k n]/\(Lit.int k n).wf=true:=by
 obtain⟨H,enc,fuel,x,h⟩:=h;obtain⟨n,h1,_,h2⟩:=DataW.trod_int a h;exact⟨n,h1,h2⟩
def Rd.bool(h:Rd P W t cs)(a:P.underlying t=some .bool):∃b,cs= [.bool b]:=by
 obtain⟨H,enc,fuel,x,h⟩:=h;obtain⟨n,h1,_⟩:=DataW.trod_bool a h;exact⟨n,h1⟩
def Rd.str(h:Rd P W t cs)(a:P.underlying t=some .string):∃s,cs= [.string s]/\s.size<=maxLen:=by
 obtain⟨H,enc,fuel,x,h⟩:=h;obtain⟨s,h1,_,h2⟩:=DataW.trod_string a h;exact⟨s,h1,h2⟩
def Rd.slice{e:cf}(h:Rd P W t cs)(g:P.underlying t=some (.slice e)):∃(p:ch) (n c:Nat),cs= [.slice p n c]/\n<=c/\c<=maxLen/\
  ∀i,i<n->∃a es,p=some a/\es.length=P.cellsOf e/\(∀j,j<P.cellsOf e->W.cell? ((a.add (i*P.cellsOf e)).add j)=es[j]?)/\Rd P W e es:=by
 obtain⟨H,enc,fuel,x,h⟩:=h;rcases DataW.trod_slice g h with⟨rfl,rfl⟩|⟨a,len,cap,elems,rest,n,rfl,rfl,rfl,_,h1,h2,k,d,_⟩
 ·exact⟨none,0,0,rfl,ep _,e7 _,λi b=>bu⟩
 ·refine⟨some a,len,cap,rfl,h1,h2,λi b=>?_⟩;have:=d i b;rw[dN]at this;obtain⟨es,he,hr⟩:=Option.bind_eq_some_iff.1 this;obtain⟨_,hl,f⟩:=World.cells?_some he;exact⟨a,es,rfl,hl,f,H,enc,n,_,hr⟩
def Rd.struct{fs:cb Field}(h:Rd P W t cs)(c:P.underlying t=some (.struct fs)):cs.length=P.cellsOf t/\
  ∀(i:Nat) (f:Field),fs[i]?=some f->Rd P W f.type ((cs.drop f.offset).take (P.cellsOf f.type)):=by
 obtain⟨H,enc,fuel,x,h⟩:=h;obtain⟨xs,n,rfl,rfl,hl,hx,hf⟩:=DataW.trod_struct c h;refine⟨hl,λi f a=>?_⟩;have b:i<xs.length:=by
  rw[hx];rcases hN i fs.size with h' | h';·exact h'
  ·simp[h']at a
 have:=hf i f a;rw[dL b]at this;exact⟨H,enc,n,_,this⟩
def Rd.kA{k:IntKind}{v:bE}(h:Rd P W t [v])(a:P.underlying t=some (.int k)):∃n,v=.int k n/\(Lit.int k n).wf=true:=by
 obtain⟨n,h1,h2⟩:=h.int a;exact⟨n,by simpa using h1,h2⟩
def Rd.u8{v:bE}(h:Rd P W t [v])(a:P.underlying t=some (.int .u8)):∃n:UInt8,v=.int .u8 n.toNat:=by
 obtain⟨n,h1,h2⟩:=h.kA a;have:0<=n/\n<=255:=by simpa[Lit.wf,IntKind.has,IntKind.min,IntKind.max,IntKind.signed,IntKind.bits]using h2
 refine⟨n.toNat.toUInt8,?_⟩;have e:(n.toNat.toUInt8.toNat:Int)=n:=by
  show((n.toNat%2^8:Nat):Int)=n;omega
 rw[e];exact h1
def Rd.nB{e:cf}{v:bE}(h:Rd P W t [v])(b:P.underlying t=some (.slice e)):∃(p:ch) (n c:Nat),v=.slice p n c/\n<=c/\c<=maxLen/\
  ∀i,i<n->∃a es,p=some a/\es.length=P.cellsOf e/\(∀j,j<P.cellsOf e->W.cell? ((a.add (i*P.cellsOf e)).add j)=es[j]?)/\Rd P W e es:=by
 obtain⟨p,n,c,h1,h2⟩:=h.slice b;exact⟨p,n,c,by simpa using h1,h2⟩
def MZ{r:Reach}{base:Nat}{v:bE}(h:Value.okWide P W r base t v)(hp:ei P t=some false):v.cells.toList= [v]:=by
 cases v with
 |agg cs=>
  exfalso;unfold ei at hp;cases hu:P.underlying t with
  |none=>simp[hu]at hp
  |some d=>cases d<;>simp[Value.okWide,Cell.okWide,Cell.ok,hu]at h hp
 |_=>rfl
end
section
variable{H:Type}{enc:cf×bE->H}{P:cP}
def Df:∀ {ts:bA cf} {vs:bA bE} {a:bA (DataW H)} {ps:bA MemPlace} {w:bH} {b:Nat} {sp:Nat->Bool} {c:Bool},DataW.TrodAll enc P w b sp c ts vs a ps->vs.length=ts.length/\a.length=ts.length
 |[],[],[],_,_,_,_,_,_=>⟨rfl,rfl⟩
 |_::_,_::_,_::_,_,_,_,_,_,⟨_,_,_,h,_⟩=>by have:=Df h;simp[this]
 |[],_::_,_,_,_,_,_,_,h=>h.elim
 |[],[],_::_,_,_,_,_,_,h=>h.elim
 |_::_,[],_,_,_,_,_,_,h=>h.elim
 |_::_,_::_,[],_,_,_,_,_,h=>h.elim
def M0:∀ {ts:bA cf} {vs:bA bE} {c:bA (DataW H)} {ps:bA MemPlace} {w:bH},DataW.TrodAll enc P w 0 (λ_=>true) true ts vs c ps->
  ∀(j:Nat) t v,ts[j]?=some t->vs[j]?=some v->Rd P w t v.cells.toList
 |[],[],[],_,_,_,j,_,_,h,_=>by simp at h
 |_::_,_::_,_::_,_,_,⟨_,_,⟨fuel,h1⟩,h2,_⟩,0,_,_,a,b=>by
  simp only[lE,fU]at a b;subst a b;exact⟨H,enc,fuel,_,h1⟩
 |_::_,_::_,_::_,_,_,⟨_,_,_,h2,_⟩,j+1,t,v,a,b=>M0 h2 j t v (by simpa using a) (by simpa using b)
 |[],_::_,_,_,_,h,_,_,_,_,_=>h.elim
 |[],[],_::_,_,_,h,_,_,_,_,_=>h.elim
 |_::_,[],_,_,_,h,_,_,_,_,_=>h.elim
 |_::_,_::_,[],_,_,h,_,_,_,_,_=>h.elim
def M1(hl:laidOutB P=true){W c:bH}(hb:Below W.heap.size W c):∀ {ts:bA cf} {vs:bA bE} {d:bA (DataW H)} {ps:bA MemPlace},(ts.all λt=>P.readableRec t&&Nat.blt t P.types.size)=true->
  (∀x∈ps,x.block<W.heap.size)->DataW.TrodAll enc P W 0 (λ_=>true) true ts vs d ps->DataW.TrodAll enc P c 0 (λb=>decide (b<W.heap.size)) true ts vs d ps
 |[],[],[],_,_,_,h=>h
 |t::ts,_::_,_::_,_,hr,a,⟨p,q,h1,h2,e⟩=>by
  subst e;simp only[zj,dA]at hr;exact⟨p,q,Below.trod hl hr.1.1 (by simpa using hr.1.2) h1 hb (λx hx=>a x (by simp[hx])),M1 hl hb hr.2 (λx hx=>a x (by simp[hx])) h2,rfl⟩
 |[],_::_,_,_,_,_,h=>h.elim
 |[],[],_::_,_,_,_,h=>h.elim
 |_::_,[],_,_,_,_,h=>h.elim
 |_::_,_::_,[],_,_,_,h=>h.elim
def YU(hl:laidOutB P=true){f:Func}{s:ChangeSpec}{apart fresh handsOn:Bool}{W l:bH}{args:cb bE}{a gs:bA (DataW H)}{before:bA MemPlace}{tb:cf}(e:(f.params.toList.all λt=>P.readableRec t&&Nat.blt t P.types.size)=true)(j:varsRowed P s.vars=true)(b:f.resultTypes.toList= [tb])(w:P.underlying tb=some .bool)(i:a.length=f.params.size->gs.length=s.vars.length->s.fn H (a++gs)= {results:=[.lit (.bool true)],args:=a,vars:=gs})(r:DataW.Whole enc P f.params.toList s.vars apart W args.toList a gs before)(hb:Below W.heap.size W l):s.post enc P f apart fresh handsOn false W args (.bool true) l:=by
 have k:=r;obtain⟨p,q,m,o,rfl,z,A⟩:=r;have v:∀x∈p++q,x.block<W.heap.size:=λx hx=>k.lt x hx;have hlen:=Df m;have u:gs.length=s.vars.length:=by
  have go:∀ {d:bA String} {gs:bA (DataW H)} {ps:bA MemPlace},DataW.TrodVars enc P W (λ_=>true) d gs ps->gs.length=d.length:=by
   intro d;induction d with
   |nil=>intro gs ps h;cases gs with
    |nil=>rfl
    |cons _ _=>exact h.elim
   |cons n d y=>intro gs ps h;cases gs with
    |nil=>exact h.elim
    |cons g gs=>
     obtain⟨_,_,_,_,_,_,_,_,_,_,h,_⟩:=h;simp[y h]
  exact go o
 have c:=i (by simpa using hlen.2) u;refine⟨a,gs,p++q,[],p,q,k,?_,?_,?_,hb.frame _,λh=>by cases h⟩
 ·rw[c,b];have:f.resultTypes.size=1:=by rw[<- tv,b];rfl
  rw[this];refine⟨[],[],⟨1,?_⟩,rfl,rfl⟩;unfold DataW.trod;rw[w];rfl
 ·rw[c];exact M1 hl hb e (λx hx=>v x (by simp[hx])) m
 ·rw[c];exact Below.trodVars hl hb j o
def Sep.start(W:bH):Sep (World.env W) [dY W.heap] W:=
 ⟨rfl,λx=>x<W.heap.size,⟨λ_ _=>rfl,λ_=>l5⟩,λ_ hb=>⟨hb,id⟩,trivial⟩
def Sep.below{L:cv}{W a:bH}{i:Nat}(h:Sep (World.env W) L a)(d:L[i]?=some (dY W.heap)):Below W.heap.size W a:=by
 have h:=h.fr i d;obtain⟨he,F,⟨h1,h2⟩,c,_⟩:=h;have e:=he;simp only[World.env,Env.mk.injEq]at e;refine⟨e.1,e.2.1,e.2.2,?_,h1⟩;rcases kZ W.heap.size with b|b;·omega
 ·have:=(c (W.heap.size-1) ((h2 _).2 bu)).1;omega
def Sep.oK{E:Env}{L:cv}{w W:bH}{i:Nat}(h:Sep E L w)(c:L[i]?=some (dY W.heap)){a:Addr}{v:bE}(b:W.cell? a=some v):w.cell? a=some v:=by
 have h:=h.fr i c;have hb:a.block<W.heap.size:=by
  rcases hN a.block W.heap.size with h' | h';·exact h'
  ·simp[World.cell?,vW h']at b
 have:=h.kn a.block hb;unfold World.cell? at b ⊢;rw[this];exact b
end
end Go.Sp
namespace Go.Sp
open Go Go.Vc
def sG(P:cP)(a:cf->bW (bA cf)):bA Field->Nat->bW (bA cf)
 |[],_=>some []
 |f::fs,o=>match Nat.beq f.offset o,a f.type with
  |true,some l=>match Nat.beq (P.cellsOf f.type) l.length with
   |true=>match sG P a fs (o+l.length)with
    |some r=>some (l++r)
    |none=>none
   |false=>none
  |_,_=>none
def sH(P:cP):Nat->cf->bW (bA cf)
 |0,_=>none
 |d+1,t=>match P.underlying t with
  |some (.struct fs)=>match sG P (sH P d) fs.toList 0 with
   |some l=>match Nat.beq (P.cellsOf t) l.length with
    |true=>some l
    |false=>none
   |none=>none
  |some (.int _)=>some [t]
  |some .bool=>some [t]
  |some .string=>some [t]
  |some (.slice _)=>some [t]
  |_=>none
section
variable{P:cP}{W:bH}
def rf(P:cP)(W:bH):bA cf->bA bE->Prop
 |[],[]=>True
 |t::ts,v::vs=>Rd P W t [v]/\rf P W ts vs
 |_,_=>False
def rf.append:∀ {ts us:bA cf} {vs xs:bA bE},rf P W ts vs->rf P W us xs->rf P W (ts++us) (vs++xs)
 |[],_,[],_,_,h=>h
 |_::_,_,_::_,_,⟨h1,h2⟩,h=>⟨h1,h2.append h⟩
 |[],_,_::_,_,h,_=>h.elim
 |_::_,_,[],_,h,_=>h.elim
def Rd.leaves:∀(d:Nat) {t:cf} {ts:bA cf} {cs:bA bE},sH P d t=some ts->Rd P W t cs->rf P W ts cs:=by
 intro d;induction d with
 |zero=>intro t ts cs h;simp[sH]at h
 |succ d E=>
  intro t ts cs h hr;unfold sH at h;cases hu:P.underlying t with
  |none=>simp[hu]at h
  |some x=>
   cases x<;>simp only[hu]at h<;>try (simp at h;done)
   case bool=>
    simp only[fU]at h;subst h;obtain⟨b,rfl⟩:=hr.bool hu;exact⟨hr,trivial⟩
   case int k=>
    simp only[fU]at h;subst h;obtain⟨b,rfl,_⟩:=hr.int hu;exact⟨hr,trivial⟩
   case string=>
    simp only[fU]at h;subst h;obtain⟨b,rfl,_⟩:=hr.str hu;exact⟨hr,trivial⟩
   case slice e=>
    simp only[fU]at h;subst h;obtain⟨p,n,c,rfl,_⟩:=hr.slice hu;exact⟨hr,trivial⟩
   case struct fs=>
    cases j:sG P (sH P d) fs.toList 0 with
    |none=>simp[j]at h
    |some l=>
     simp only[j]at h;split at h
     ·next A=>
      simp only[fU]at h;subst h;obtain⟨hlen,u⟩:=hr.struct hu;rw[m7 A]at hlen;have key:∀(a:bA Field) (o:Nat) (l:bA cf),sG P (sH P d) a o=some l->(∀f∈a,Rd P W f.type ((cs.drop f.offset).take (P.cellsOf f.type)))->cs.length=o+l.length->rf P W l (cs.drop o):=by
       intro a;induction a with
       |nil=>
        intro o l hl _ q;simp only[sG,fU]at hl;subst hl;rw[kW (by simpa using Nat.le_of_eq q)];trivial
       |cons f a B=>
        intro o l hl m q;unfold sG at hl;split at hl
        ·next s ho v=>
         split at hl
         ·next hn=>
          split at hl
          ·next r z=>
           simp only[fU]at hl;subst hl;have y:=m7 ho;have w:=m7 hn;have h1:=m f (by simp);rw[y,w]at h1;have h2:=E v h1;have C:=B (o+s.length) r z (λg j=>m g (by simp[j])) (by rw[q,dg];omega);have e:cs.drop o=(cs.drop o).take s.length++cs.drop (o+s.length):=by
            rw[<- p1,fK]
           rw[e];exact h2.append C
          ·simp at hl
         ·simp at hl
        ·simp at hl
      have:=key fs.toList 0 l j (λf hf=>by
       obtain⟨i,D,rfl⟩:=jb.1 hf;exact u i _ (by simp at D ⊢)) (by simpa using hlen)
      simpa using this
     ·simp at h
end
end Go.Sp
namespace Go.Sp
open Go Go.Vc
def eL{ι:Type}(f:ι->Asn):Asn:=
  ⟨λh F=>∃a:ι->Nat->Prop,(∀i,(f i).holds h (a i))/\(∀i j b,i≠j->a i b->¬ a j b)/\∀b,F b↔∃i,a i b,
   λ⟨a,h1,h2,c⟩ hl=>⟨a,λi=>(f i).loc (h1 i) (λb hb=>hl b ((c b).2 ⟨i,hb⟩)),h2,c⟩⟩
section
variable{E:Env}{L:cv}{w:bH}{ι:Type}[DecidableEq ι]
def e3(f:ι->Asn)(i:ι)(A:Asn):ι->Asn:=λj=>if j=i then A else f j
omit [DecidableEq ι] in
def eL.nil(h:Sep E L w){f:ι->Asn}(hf:∀i,f i=emp):Sep E (eL f::L) w:=by
 obtain⟨he,h⟩:=h;refine⟨he,λ_=>False,⟨λ_ _=>False,λi=>?_,λ_ _ _ _ h=>h.elim,λb=>⟨λh=>h.elim,λ⟨_,h⟩=>h.elim⟩⟩,λ_ h=>h.elim,h.weaken (λ_ hb=>hb.elim id id)⟩;rw[hf];exact λ_ h=>h
def eL.out{f:ι->Asn}(h:Sep E (eL f::L) w)(i:ι):Sep E (f i::eL (e3 f i emp)::L) w:=by
 obtain⟨he,F,⟨a,h1,h2,c⟩,g,o⟩:=h;refine⟨he,a i,h1 i,λb hb=>g b ((c b).2 ⟨i,hb⟩),λb=>∃j,j≠i/\a j b,⟨λj b=>j≠i/\a j b,λj=>?_,?_,λb=>l5⟩,?_,?_⟩
 ·unfold e3;split;·next d=>subst d;exact λb hb=>hb.1 rfl
  ·next d=>
   have e:(λb=>j≠i/\a j b)=a j:=by funext b;simp[d]
   show(f j).holds w.heap (λb=>j≠i/\a j b);rw[e];exact h1 j
 ·intro j k b n hb l;exact h2 j k b n hb.2 l.2
 ·rintro b ⟨j,m,hb⟩;refine⟨(g b ((c b).2 ⟨j,hb⟩)).1,?_⟩;rintro(hu|hu);·exact hu
  ·exact h2 j i b m hb hu
 ·refine o.weaken ?_;rintro b ((hu|hu)|⟨j,m,hu⟩);·exact hu.elim
  ·exact .inr ((c b).2 ⟨i,hu⟩)
  ·exact .inr ((c b).2 ⟨j,hu⟩)
def eL.M3{f:ι->Asn}{i:ι}{A:Asn}(h:Sep E (A::eL f::L) w)(r:f i=emp):Sep E (eL (e3 f i A)::L) w:=by
 obtain⟨he,F,h1,h2,G,⟨m,n,p,d⟩,g,q⟩:=h;have o:∀b,¬ m i b:=by
  have:=n i;rw[r]at this;exact this
 refine⟨he,λb=>F b\/G b,⟨λj b=>if j=i then F b else m j b,λj=>?_,?_,λb=>?_⟩,?_,?_⟩
 ·unfold e3;split;·next l=>subst l;simpa using h1
  ·next l=>simpa[l]using n j
 ·intro j k b e hb a;by_cases c:j=i
  ·by_cases hk:k=i;·exact e (c.trans hk.symm)
   ·simp only[c,gQ]at hb;simp only[hk,gP]at a;exact(g b ((d b).2 ⟨k,a⟩)).2 (.inr hb)
  ·simp only[c,gP]at hb;by_cases hk:k=i
   ·simp only[hk,gQ]at a;exact(g b ((d b).2 ⟨j,hb⟩)).2 (.inr a)
   ·simp only[hk,gP]at a;exact p j k b e hb a
 ·constructor
  ·rintro(hb|hb);·exact⟨i,by simpa using hb⟩
   ·obtain⟨j,c⟩:=(d b).1 hb;refine⟨j,?_⟩;have:j≠i:=by rintro rfl;exact o b c
    simpa[this]using c
  ·rintro⟨j,c⟩;by_cases h:j=i;·exact .inl (by simpa[h]using c)
   ·exact .inr ((d b).2 ⟨j,by simpa[h]using c⟩)
 ·rintro b (hb|hb);·exact h2 b hb
  ·exact⟨(g b hb).1,λhu=>hu⟩
 ·refine q.weaken ?_;rintro b (hu|hu|hu);·exact hu.elim
  ·exact .inl (.inr hu)
  ·exact .inr hu
def YV(f:ι->Asn)(i:ι)(A B:Asn):e3 (e3 f i A) i B=e3 f i B:=by
 funext j;unfold e3;split<;>simp_all
@[simp] theorem aKW(f:ι->Asn)(i:ι)(A:Asn):e3 f i A i=A:=by simp[e3]
def eL.back{f:ι->Asn}{i:ι}{A:Asn}(h:Sep E (A::eL (e3 f i emp)::L) w):Sep E (eL (e3 f i A)::L) w:=by
 have:=eL.M3 (i:=i) h (by simp);rwa[YV]at this
end
end Go.Sp
namespace Go.Sp
open Go Go.Vc
def bw(s:Sl)(m:Nat)(vs:bA bE):Asn:=
 match s.p with
 |none=>cG (s.n=0/\s.c=0/\vs= []) emp
 |some a=>fe λspare:bA bE=>cG (a.off=0/\a.spot=none/\vs.length=s.n*m/\vs.length+spare.length=s.c*m/\s.n<=s.c) (bC a.block (vs++spare))
section
variable{E:Env}{L:cv}{w:bH}{P:cP}{s:Sl}{m:Nat}{vs:bA bE}
def bw.none_(h:Sep E L w):Sep E (bw ⟨none,0,0⟩ m []::L) w:=Sep.cG.2 ⟨⟨rfl,rfl,rfl⟩,Sep.emp.2 h⟩
def bw.make{b n c:Nat}{spare:bA bE}(h:Sep E (bC b (vs++spare)::L) w)(h1:vs.length=n*m)(h2:vs.length+spare.length=c*m)(a:n<=c):Sep E (bw ⟨some ⟨b,0,none⟩,n,c⟩ m vs::L) w:=
 Sep.ex.2 ⟨spare,Sep.cG.2 ⟨⟨rfl,rfl,h1,h2,a⟩,h⟩⟩
def bw.length(h:Sep E (bw s m vs::L) w):vs.length=s.n*m:=by
 unfold bw at h;split at h;·obtain⟨⟨h1,_,a⟩,_⟩:=Sep.cG.1 h;rw[h1,a];simp
 ·obtain⟨_,h⟩:=Sep.ex.1 h;exact(Sep.cG.1 h).1.2.2.1
def bw.ik(h:Sep E (bw s m vs::L) w)(hn:0<s.n):∃b spare,s.p=some ⟨b,0,none⟩/\vs.length=s.n*m/\vs.length+spare.length=s.c*m/\s.n<=s.c/\Sep E (bC b (vs++spare)::L) w:=by
 unfold bw at h;split at h;·obtain⟨⟨h1,_⟩,_⟩:=Sep.cG.1 h;omega
 ·next a f=>
  obtain⟨spare,h⟩:=Sep.ex.1 h;obtain⟨⟨h1,h2,c,d,e⟩,h⟩:=Sep.cG.1 h;refine⟨a.block,spare,?_,c,d,e,h⟩;rw[f];cases a;simp_all
def bw.cell{b:Nat}{spare:bA bE}(h:Sep E (bC b (vs++spare)::L) w){j:Nat}(a:j<vs.length):w.cell? ⟨b,j,none⟩=vs[j]? :=by
 rw[h.cell,eN a]
def bw.el{i:Int}{f:Addr->Prop}(q:Nat)(h:Sep E L w)(c:L[q]?=some (bw s m vs))(a:0<=i)(h1:i<s.n)(k:∀b,s.p=some ⟨b,0,none⟩->(∀j,j<m->w.cell? ⟨b,i.toNat*m+j,none⟩=vs[i.toNat*m+j]?)->f ⟨b,i.toNat*m,none⟩):cM s.p s.n i m f:=by
 have h:=h.fr q c;obtain⟨b,spare,hp,hl,_,_,h⟩:=bw.ik h bu;refine⟨⟨b,0,none⟩,hp,⟨a,h1⟩,?_⟩;rw[cj,fy];refine k b hp (λj d=>bw.cell h ?_);have:i.toNat*m+m<=s.n*m:=by
  rw[<- zp];exact kY _ bu
 omega
def bw.st{b o:Nat}{v:bE}{f:bg0}(h:Sep E (bw s m vs::L) w)(hp:s.p=some ⟨b,0,none⟩)(ho:o<vs.length)(k:∀c,Sep E (bw s m (vs.set o v)::L) c->f c):St ⟨b,o,none⟩ v f w:=by
 have hl:=bw.length h;have hn:0<s.n:=by
  rcases kZ s.n with d|d
  ·have l:vs.length=0:=by rw[hl,d,oh]
   omega
  ·exact d
 obtain⟨j,spare,a,h1,h2,g,h⟩:=bw.ik h hn;rw[hp]at a;simp only[fU,Addr.mk.injEq,and_true]at a;subst a;refine St.i h (by simp;omega) (λc e=>k c ?_);rw[rG _ _ ho]at e;have i:s=⟨some ⟨b,0,none⟩,s.n,s.c⟩:=by cases s;simp_all
 rw[i];exact bw.make (spare:=spare) e (by simpa using h1) (by simpa using h2) g
def bw.rQ{b o:Nat}{xs:bA bE}{f:bg0}(h:Sep E (bw s m vs::L) w)(hp:s.p=some ⟨b,0,none⟩)(hx:0<xs.length)(ho:o+xs.length<=vs.length)(k:∀c,Sep E (bw s m (ic vs o xs)::L) c->f c):kM xs ⟨b,o,none⟩ f w:=by
 have hl:=bw.length h;have hn:0<s.n:=by
  rcases kZ s.n with d|d
  ·have n:vs.length=0:=by rw[hl,d,oh]
   omega
  ·exact d
 obtain⟨l,spare,a,h1,h2,i,h⟩:=bw.ik h hn;rw[hp]at a;simp only[fU,Addr.mk.injEq,and_true]at a;subst a;refine kM.i h (by simp;omega) (λc g=>k c ?_);have e:ic (vs++spare) o xs=ic vs o xs++spare:=by
  rw[oC _ _ _ (by simp;omega),oC _ _ _ ho,rD bu,S9 ho];simp
 rw[e]at g;have j:s=⟨some ⟨b,0,none⟩,s.n,s.c⟩:=by cases s;simp_all
 rw[j];exact bw.make (spare:=spare) g (by simpa using h1) (by simpa using h2) i
def sI(z:cb bE)(n:Nat):(Builtin.zeroCells z n).toList.length=n*z.size:=by simp[Builtin.zeroCells]
def bw.append{x:bE}{k:Nat}{news:bA bE}{st D ty:cf}{dd:Nat}{zs:bA bE}(h:Sep E (bw s m vs::L) w)(z:hi P st=some (dd,m,zs))(C:zs.length=m)(v:Src P m D x k news w)(hk:0<k)(p:(s.n+k)*(dd+1)<=70368744177664){G:Sl->bg0}(g:∀s' d,s'.n=s.n+k->Sep E (bw s' m (vs++news)::L) d->G s' d):
  ∃y:Sl,∃d,Sem.run P (Builtin.append_ #[st,D] ty #[.slice s.p s.n s.c,x]) w=.ok (.slice y.p y.n y.c) d/\G y d:=by
 have i:=v.newsLen;have J:(s.n+k)*dd+(s.n+k)<=70368744177664:=by rw[nb,fM]at p;exact p
 have n:∀c,c<s.n+k->Builtin.nextslicecap (s.n+k) c*dd<=281474976710656:=by
  intro c f;have hle:Builtin.nextslicecap (s.n+k) c<=2*(s.n+k)+1000:=by
   unfold Builtin.nextslicecap;split;·omega
   ·split;·omega
    ·have go:∀r c,c<=s.n+k+((s.n+k)+768)/4->Builtin.growBy (s.n+k) r c<=s.n+k+((s.n+k)+768)/4:=by
      intro r;induction r with
      |zero=>intro c f;exact f
      |succ r A=>
       intro c f;unfold Builtin.growBy;split;·exact f
       ·exact A _ bu
     have:=go 4 c bu;omega
  have h1:=kY dd hle;rw[ke,Gt]at h1;have h2:dd<=(s.n+k)*dd:=Nat.le_mul_of_pos_left _ bu;by_cases N:s.n+k<=1000
  ·have q:dd<=70368744177664:=by omega
   have t:Builtin.nextslicecap (s.n+k) c<=4*(s.n+k):=by
    unfold Builtin.nextslicecap;split;·omega
    ·split;·omega
     ·have go:∀r c,c<=s.n+k+((s.n+k)+768)/4->Builtin.growBy (s.n+k) r c<=s.n+k+((s.n+k)+768)/4:=by
       intro r;induction r with
       |zero=>intro c f;exact f
       |succ r A=>
        intro c f;unfold Builtin.growBy;split;·exact f
        ·exact A _ bu
      have:=go 4 c bu;omega
   have B:=kY dd t;rw[Gt]at B;omega
  ·have j:1000*dd<=(s.n+k)*dd:=kY _ bu;omega
 unfold bw at h;split at h
 ·next hp=>
  obtain⟨⟨h1,h2,q⟩,h⟩:=Sep.cG.1 h;have h:=Sep.emp.1 h;rw[hp,h1,h2];refine jx.i h z v hk bu (by have:=n 0 bu;rw[h1,fy]at this;exact this) (λF c' d l t=>g _ d (by simp[h1]) ?_);subst q;refine bw.make (spare:=(Builtin.zeroCells zs.toArray (c'-k)).toList) t (by simpa using i) ?_ l;rw[sI];simp only[l3,i,Gb,C,<- ke];congr 1;omega
 ·next a I=>
  obtain⟨spare,h⟩:=Sep.ex.1 h;obtain⟨⟨h1,h2,q,t,B⟩,h⟩:=Sep.cG.1 h;obtain⟨b,o,sp⟩:=a;simp only at h1 h2;subst h1 h2;rw[I];have K:((s.n+k)*m)=s.n*m+k*m:=ke _ _ _;by_cases hr:s.n+k<=s.c
  ·have hle:(s.n+k)*m<=s.c*m:=kY _ hr;refine append.i h z v (by simp;omega) (λ_=>by simp;omega) bu (λu=>bu) (λ_ d j=>g _ d rfl ?_) (λM=>bu)
   ·have e:ic (vs++spare) (0+s.n*m) news=vs++news++spare.drop news.length:=by
     rw[oC _ _ _ (by simp;omega),rD bu,iq bu,Tq];rw[List.drop_eq_nil_of_le bu];simp only[l3];congr 2;omega
    rw[e]at j;refine bw.make (spare:=spare.drop news.length) j (by simp;omega) (by simp;omega) hr
  ·refine append.i h z v (by simp;omega) (λu=>absurd u hr) bu (n _) (λu=>absurd u hr) (λ_ F c' d l j=>g _ d rfl ?_);have e:((vs++spare).drop 0).take (s.n*m)=vs:=by
    rw[rK,rD bu,iq bu]
   rw[e]at j;have H:=(j.fr 1 rfl).tail;refine bw.make (spare:=(Builtin.zeroCells zs.toArray (c'-(s.n+k))).toList) H (by simp;omega) ?_ l;rw[sI];simp only[dg,q,i,Gb,C,<- ke];congr 1;omega
def Src.bC{b n c i:Nat}{C:bA bE}{a:cf}{dd:Nat}{zs:bA bE}(h:Sep E L w)(d:L[i]?=Option.some (Sp.bC b C))(f:hi P a=Option.some (dd,m,zs))(hl:C.length=n*m)(h1:∀u∈C,u.oneCell'=true):
  Src P m a (.slice (Option.some ⟨b,0,none⟩) n c) n C w:=by
 obtain⟨e,k,z,g,_⟩:=ph f;exact Src.ofSlice w g ⟨b,0,none⟩ n c C hl (λj u hu=>by rw[cj,h.cellAt i d,fy];exact hu) h1
end
end Go.Sp
namespace Go.Sp
open Go Go.Vc
def bP{α:Type}(f:α->bA bE)(l:bA α):bA bE:=(l.map f).flatten
section
variable{α:Type}{f:α->bA bE}{m:Nat}(hf:∀a,(f a).length=m)
include hf
def nY(l:bA α):(bP f l).length=l.length*m:=by
 induction l with
 |nil=>simp[bP]
 |cons a l b=>
  have:bP f (a::l)=f a++bP f l:=rfl;rw[this,dg,hf,b,hI,ke,Nat.one_mul,rM]
def YW(l:bA α)(i j:Nat)(c:j<m):(bP f l)[i*m+j]?=l[i]?.bind λa=>(f a)[j]? :=by
 induction l generalizing i with
 |nil=>simp[bP]
 |cons a l b=>
  have:bP f (a::l)=f a++bP f l:=rfl;rw[this];cases i with
  |zero=>rw[eN (by rw[hf];omega)];simp
  |succ i=>
   rw[fR (by rw[hf,ke];omega),hf];have e:(i+1)*m+j-m=i*m+j:=by rw[ke];omega
   rw[e,b i];simp
def sJ{l:bA α}{i:Nat}{a:α}(h:l[i]?=some a)(j:Nat)(b:j<m):(bP f l)[i*m+j]?=(f a)[j]? :=by
 rw[YW hf l i j b,h];rfl
def Dg{l:bA α}{i j:Nat}{a a':α}{v:bE}(h:l[i]?=some a)(g:j<m)(c:f a'=(f a).set j v):(bP f l).set (i*m+j) v=bP f (l.set i a'):=by
 induction l generalizing i with
 |nil=>simp at h
 |cons b l d=>
  have e0:bP f (b::l)=f b++bP f l:=rfl;rw[e0];cases i with
  |zero=>
   simp only[lE,fU]at h;subst h;rw[rG _ _ (by rw[hf];omega),oh,fy,<- c];rfl
  |succ i=>
   rw[ju _ _ (by rw[hf,ke];omega),hf];have e:(i+1)*m+j-m=i*m+j:=by rw[ke];omega
   rw[e,d (by simpa using h)];rfl
def YX{l:bA α}{i j:Nat}{a a':α}{xs:bA bE}(h:l[i]?=some a)(q:j+xs.length<=m)(d:f a'=ic (f a) j xs):ic (bP f l) (i*m+j) xs=bP f (l.set i a'):=by
 induction l generalizing i with
 |nil=>simp at h
 |cons b l o=>
  have e0:bP f (b::l)=f b++bP f l:=rfl;have hlen:=nY hf (b::l);have e:i<(b::l).length:=by
   rcases hN i (b::l).length with h' | h';·exact h'
   ·simp[g2 h']at h
  have hle:i*m+m<=(b::l).length*m:=by rw[<- zp];exact kY _ e
  rw[oC _ _ _ (by rw[hlen];omega),e0];cases i with
  |zero=>
   simp only[lE,fU]at h;subst h;rw[oC _ _ _ (by rw[hf];omega)]at d;have c:bP f ((b::l).set 0 a')=f a'++bP f l:=rfl;rw[c,d,oh,fy,rD (by rw[hf];omega),S9 (by rw[hf];omega)];simp
  |succ i=>
   have k:=nY hf l;have g:i<l.length:=by simpa using e
   have n:i*m+m<=l.length*m:=by rw[<- zp];exact kY _ g
   have:=o (by simpa using h);rw[oC _ _ _ (by rw[k];omega)]at this;have c:bP f ((b::l).set (i+1) a')=f b++bP f (l.set i a'):=rfl;rw[c,<- this,List.take_append,Tq];have p:(i+1)*m+j-(f b).length=i*m+j:=by rw[hf,ke];omega
   have q2:(i+1)*m+j+xs.length-(f b).length=i*m+j+xs.length:=by rw[hf,ke];omega
   rw[p,q2,iq (by rw[hf,ke];omega),kW (by rw[hf,ke];omega)];simp
omit hf in
def m4(l l':bA α):bP f (l++l')=bP f l++bP f l':=by simp[bP]
omit hf in
def oL(a:α):bP f [a]=f a:=by simp[bP]
end
end Go.Sp
namespace Go.Sp
open Go Go.Vc Go.WideElems Go.WideShapes Go.RowKit
structure KeysOf(f:Int->bW bE)(l:bR):Prop where
 cZ:l.Pairwise (· < ·)
 mem:∀k,k∈l↔(f k).isSome=true
def bD(l:bR):bA bE:=l.map (Value.int .i64)
@[simp] theorem YY(l:bR):(bD l).length=l.length:=by simp[bD]
@[simp] theorem x5(l:bR)(i:Nat):(bD l)[i]?=l[i]?.map (Value.int .i64):=by simp[bD]
def sK:∀(N:Nat) (l:bR),l.Nodup->(∀x∈l,0<=x/\x<N)->l.length<=N
 |0,l,_,h=>by
  cases l with
  |nil=>simp
  |cons x l=>have:=h x (by simp);omega
 |N+1,l,b,h=>by
  have h1:=sK N (l.filter (· ≠(N:Int))) (b.filter _) (λx hx=>by
   simp only[gq,gE]at hx;have:=h x hx.1;omega)
  by_cases hm:(N:Int)∈l
  ·have h2:(l.filter (· ≠(N:Int))).length=l.length-1:=by
    have:l.filter (· ≠(N:Int))=l.erase (N:Int):=by rw[b.erase_eq_filter];congr 1;funext x;simp[bne,decide_not];rfl
    rw[this,List.length_erase_of_mem hm]
   omega
  ·have:l.filter (· ≠(N:Int))=l:=by
    rw[vZ];intro a c;simp only[ne_eq,gE];rintro rfl;exact hm c
   rw[this]at h1;omega
section
variable{E:Env}{L:cv}{w:bH}{P:cP}{f:Int->bW bE}{b:Nat}
def sL:bE->bW (DataW Unit×bA MemPlace):=λ_=>some (.lit (.bool true),[])
def cE.owns{i:Nat}{kt:cf}(h:Sep E L w)(A:L[i]?=some (cE b (Value.int .i64) f))(hk:P.underlying kt=some (.int .i64)){N:Nat}(o:∀k v,f k=some v->0<=k/\k<N)(hb:N<=17592186044416):
  ∃D:DataW Unit,w.ownsMap P kt sL b N D/\Maps.size D<=N/\∀g:bR,g.Perm (intKeys D)->g.Nodup/\∀k,k∈g↔(f k).isSome=true:=by
 obtain⟨es,ck,q,M⟩:=cE.at_ h A;have m:∀e∈es,∃k:Int,e.key=.int .i64 k/\f k=some e.val/\(Lit.int .i64 k).wf=true:=by
  intro e he;obtain⟨k,h1,h2⟩:=M.key e he;refine⟨k,h1,h2,?_⟩;have:=o k _ h2;simp only[Lit.wf,IntKind.min,IntKind.max,IntKind.signed,IntKind.bits,dA,gE];constructor<;>simp<;>omega
 let c:MapEntry->Int:=λe=>match e.key with | .int _ n=>n|_=>0
 have d:∀e∈es,e.key=.int .i64 (c e)/\f (c e)=some e.val/\(Lit.int .i64 (c e)).wf=true:=by
  intro e he;obtain⟨k,h1,h2,y⟩:=m e he;have:c e=k:=by simp only[c,h1]
  rw[this];exact⟨h1,h2,y⟩
 have j:(es.map c).Nodup:=by
  rw[ob,kc];refine FO ?_ M.one;intro a b z hb s he;exact s (by rw[(d a z).1,(d b hb).1,he])
 have hlen:es.length<=N:=by
  have:=sK N (es.map c) j (λx hx=>by
   obtain⟨e,he,rfl⟩:=fo.1 hx;exact o _ _ (d e he).2.1)
  simpa using this
 have l:∀e∈es,rd P kt sL e=some (.int .i64 (c e),.lit (.bool true)):=by
  intro e he;have r:=d e he;unfold rd;rw[r.1,Maps.keyOf_int_mk hk r.2.2];rfl
 have t:es.map (rg P kt sL)=es.map λe=>(Lit.int .i64 (c e),(DataW.lit (.bool true):DataW Unit)):=by
  apply Tk;intro e he;unfold rg;rw[l e he];rfl
 refine⟨.map ((es.map (rg P kt sL)).foldr DataW.insert []),⟨es.toArray,ck,q,⟨?_,?_,?_⟩,by simpa using hlen,by simp⟩,?_,?_⟩;·simp[maxLen];omega
 ·refine⟨by simpa using M.born,?_,?_⟩;·simp only[ob,kc];exact M.k9
  ·simp only[ob,kc];exact M.one
 ·intro x hx;exact⟨_,l x (by simpa using hx)⟩
 ·show((es.map (rg P kt sL)).foldr DataW.insert []).length<=N;rw[(sorted_perm _).length_eq];simpa using hlen
 ·intro g u;have hp:g.Perm (es.map c):=by
   refine u.trans ?_;show(((es.map (rg P kt sL)).foldr DataW.insert []).map λp=>intOf p.1).Perm _;refine((sorted_perm _).map _).trans ?_;rw[t,tI];exact List.Perm.of_eq (Tk (λe _=>rfl))
  refine⟨hp.nodup_iff.2 j,λk=>?_⟩;rw[hp.mem_iff,fo];constructor
  ·rintro⟨e,he,rfl⟩;rw[(d e he).2.1];rfl
  ·intro B;obtain⟨v,C⟩:=kJ.1 B;obtain⟨e,he,h1,h2⟩:=M.has k v C;refine⟨e,he,?_⟩;have:=(d e he).1;rw[h1]at this;simpa using this.symm
def M4{d:bR}(hn:d.Nodup):(d.mergeSort λx y=>decide (x<=y)).Pairwise (· < ·):=by
 have h1:=List.pairwise_mergeSort (le:=λx y:Int=>decide (x<=y)) (by simpa using λa b c=>Int.le_trans) (by simpa using λa b=>Int.le_total a b) d;have h2:(d.mergeSort λx y=>decide (x<=y)).Nodup:=(y2 _ _).nodup_iff.2 hn;rw[ob]at h2;exact(h1.and h2).imp (λ{a b} h=>by have:=h.1;simp at this;have:=h.2;omega)
def Dh{W:bH}{v:bE}{l:bR}{d:cf}(h:Sep E L w)(hw:W.ownsRow w.heap.size d 1 v l.length (l.map encZ))(hb:RowKit.Below w.heap.size w W):
  ∃s:Sl,v=.slice s.p s.n s.c/\s.n=l.length/\Sep E (bw s 1 (bD l)::L) W:=by
 obtain⟨hl,f|⟨g,cap,cur,n,j,a,hle,k,e,b⟩⟩:=hw
 ·obtain⟨rfl,h1⟩:=f;have:l= []:=tr h1;subst this;refine⟨⟨none,0,0⟩,rfl,rfl,bw.none_ (h.grow ⟨hb.os,hb.tape,hb.output,hb.size,hb.block⟩)⟩
 ·refine⟨⟨some ⟨g,0,none⟩,l.length,cap⟩,n,rfl,?_⟩;have c:cur.toList=bD l++cur.toList.drop l.length:=by
   have:bD l=cur.toList.take l.length:=by rw[fM]at b;exact b.symm
   rw[this,fK]
  have m:cur.toList.length=cap:=by simpa using e
  have i:Sep E (bC g (bD l++cur.toList.drop l.length)::L) W:=by
   refine h.new ⟨hb.os,hb.tape,hb.output,hb.size,hb.block⟩ (F':=λx=>x=g) ⟨⟨d,(0,0),?_,λ_ _ o=>bu⟩,λ_=>l5⟩ (λx hx=>?_);·rw[a,<- c]
   ·subst hx;exact⟨j,(oZ.1 a).1⟩
  exact bw.make i (by simp) (by simp;omega) hle
end
end Go.Sp
namespace Go.Sp
open Go Go.Vc
def bT{b:Bool}{A B:Prop}(h:b=true)(k:A):bif b then A else B:=by subst h;exact k
def bF{b:Bool}{A B:Prop}(h:b=false)(k:B):bif b then A else B:=by subst h;exact k
def cX{n i:Int}{A B:Prop}(h1:n<i->A)(h2:i<=n->B):bif decide (n<i)then A else B:=
 cw (λh=>h1 (by simpa using h)) (λh=>h2 (by simpa using h))
def h4{n i:Int}{A B:Prop}(h1:n<=i->A)(h2:i<n->B):bif decide (n<=i)then A else B:=
 cw (λh=>h1 (by simpa using h)) (λh=>h2 (by simpa using h))
def hD{n i:Int}{A B:Prop}(h1:i<=n->A)(h2:n<i->B):bif decide (n≥i)then A else B:=
 cw (λh=>h1 (by simpa using h)) (λh=>h2 (by simpa using h))
def gn{n i:Int}{A B:Prop}(h1:i<n->A)(h2:n<=i->B):bif decide (n>i)then A else B:=
 cw (λh=>h1 (by simpa using h)) (λh=>h2 (by simpa using h))
def iz{n i:Int}{A B:Prop}(h1:n≠i->A)(h2:n=i->B):bif(n !=i)then A else B:=
 cw (λh=>h1 (by simpa using h)) (λh=>h2 (by simpa using h))
def eX{n i:Int}{A B:Prop}(h1:n=i->A)(h2:n≠i->B):bif(n==i)then A else B:=
 cw (λh=>h1 (by simpa using h)) (λh=>h2 (by simpa using h))
section
variable{E:Env}{L:cv}{w:bH}{P:cP}
def ld{α:Type}{mk:α->bE}{F:α->Prop}{a:Addr}{b o:Nat}{c:bA bE}{x:α}(h:Sep E L w)(i:Nat)(d:a=⟨b,o,none⟩)(e:L[i]?=some (bC b c))(f:c[o]?=some (mk x))(k:F x):
  ∃x,w.cell? a=some (mk x)/\F x:=⟨x,by rw[d,h.cellAt i e];exact f,k⟩
def ew(f:bg0){b:Nat}{C vs:bA bE}(h:Sep E (bC b C::L) w)(c:C.length=vs.length)(k:∀a,Sep E (bC b vs::L) a->f a):kM vs ⟨b,0,none⟩ f w:=by
 refine kM.i h bu (λa h1=>k a ?_);rw[oC _ _ _ bu]at h1;simpa[<- c]using h1
def mu{s:Sl}{l:bR}{i:Int}{f:Addr->Prop}(q:Nat)(h:Sep E L w)(g:L[q]?=some (bw s 1 (bD l)))(hn:s.n=l.length)(d:0<=i)(h1:i<l.length)(k:∀a,w.cell? a=some (.int .i64 (l.getD i.toNat 0))->f a):cM s.p s.n i 1 f:=by
 refine bw.el q h g d bu (λb _ e=>k _ ?_);have:=e 0 bu;rw[k1]at this;rw[this,fM];have c:i.toNat<l.length:=by omega
 simp[c,List.getD,bD]
def YZ{s:Sl}{l:bR}{i:Int}{f:Addr->Prop}(q:Nat)(h:Sep E L w)(p:L[q]?=some (bw s 1 (bD l)))(hn:s.n=l.length)(o:0<=i)(h1:i<l.length)(k:∀a,(∀ {L':cv} {w':bH} (d:Nat),Sep E L' w'->L'[d]?=some (bw s 1 (bD l))->w'.cell? a=some (.int .i64 (l.getD i.toNat 0)))->f a):cM s.p s.n i 1 f:=by
 refine bw.el q h p o bu (λb hb _=>k _ (λ{L' w'} d h' m=>?_));have h2:=h'.fr d m;obtain⟨n,spare,c,hl,_,_,h2⟩:=bw.ik h2 bu;have e:n=b:=by rw[hb]at c;simpa using c.symm
 subst e;have:=bw.cell h2 (j:=i.toNat) (by rw[hl,hn];omega);rw[fM,this];have g:i.toNat<l.length:=by omega
 simp[g,List.getD,bD]
end
end Go.Sp
namespace Go.Sp
open Go Go.Vc
section
variable{E:Env}{L:cv}{w:bH}{P:cP}{s:Sl}{m:Nat}{vs:bA bE}
def Y0{st k ty:cf}{dd:Nat}{zs:bA bE}{x:bE}(b:Src P m k x 0 [] w)(o:hi P st=some (dd,m,zs))(d:s.n<=s.c){G:Sl->bg0}(g:G s w):
  ∃a:Sl,∃j,Sem.run P (Builtin.append_ #[st,k] ty #[.slice s.p s.n s.c,x]) w=.ok (.slice a.p a.n a.c) j/\G a j:=by
 obtain⟨e,i,z,q,l,u,r,h,t⟩:=ph o;subst h;refine⟨s,w,?_,g⟩;obtain⟨p,n,c⟩:=s;have hl:=b.len;have f:=b.cells;simp only at d;rcases b.kind with⟨e',hk⟩|hk<;>cases p<;>simp[Builtin.append_,run_underlying q,run_underlying hk,sizeOf,typeInfo,l,hl,d,f,storeCells]
def bw.cap(h:Sep E (bw s m vs::L) w):s.n<=s.c:=by
 unfold bw at h;split at h;·obtain⟨⟨h1,h2,_⟩,_⟩:=Sep.cG.1 h;omega
 ·obtain⟨_,h⟩:=Sep.ex.1 h;exact(Sep.cG.1 h).1.2.2.2.2
def bw.app{x:bE}{k:Nat}{news:bA bE}{st i ty:cf}{dd:Nat}{zs:bA bE}(h:Sep E (bw s m vs::L) w)(f:hi P st=some (dd,m,zs))(j:zs.length=m)(e:Src P m i x k news w)(d:(s.n+k)*(dd+1)<=70368744177664){G:Sl->bg0}(g:∀s' a,s'.n=s.n+k->Sep E (bw s' m (vs++news)::L) a->G s' a):
  ∃b:Sl,∃a,Sem.run P (Builtin.append_ #[st,i] ty #[.slice s.p s.n s.c,x]) w=.ok (.slice b.p b.n b.c) a/\G b a:=by
 rcases kZ k with c|c
 ·subst c;have hn:news= []:=by
   have:=e.newsLen;rw[oh]at this;exact yZ.1 this
  subst hn;exact Y0 e f (bw.cap h) (g s w rfl (by rw[hs];exact h))
 ·exact bw.append h f j e c d g
def Src.sub{q l n' c':Nat}{k:cf}{dd:Nat}{zs:bA bE}(h:Sep E L w)(p:L[q]?=some (bw s m vs))(hx:hi P k=some (dd,m,zs))(hl:l+n'<=s.n)(h1:∀u∈vs,u.oneCell'=true):
  Src P m k (.slice (gj s.p l s.c m) n' c') n' ((vs.drop (l*m)).take (n'*m)) w:=by
 obtain⟨e,y,z,i,_⟩:=ph hx;have h:=h.fr q p;have hlen:=bw.length h;have d:((vs.drop (l*m)).take (n'*m)).length=n'*m:=by
  have hle:(l+n')*m<=s.n*m:=kY _ hl;rw[ke]at hle;simp only[hJ,nO];omega
 have f:∀u∈(vs.drop (l*m)).take (n'*m),u.oneCell'=true:=λu hu=>h1 u (rH (m8 hu));rcases kZ n' with g|g
 ·subst g;have e0:(vs.drop (l*m)).take (0*m)= []:=by rw[oh];rfl
  rw[e0];refine⟨.inl ⟨e,i⟩,λw'=>by simp[Builtin.lenOf],?_,?_,by simp,λu hu=>by cases hu⟩
  ·cases gj s.p l s.c m with
   |none=>exact run_firstCells_none w m 0 0 c'
   |some a=>exact run_firstCells_some w m 0 a 0 c' [] (by simp) (λj v c=>by simp at c)
  ·cases gj s.p l s.c m with
   |none=>exact run_firstCells_none w.drew m 0 0 c'
   |some a=>exact run_firstCells_some w.drew m 0 a 0 c' [] (by simp) (λj v c=>by simp at c)
 ·have o:=bw.cap h;obtain⟨b,spare,hp,r,t,x,h⟩:=bw.ik h bu;have n:gj s.p l s.c m=some ⟨b,l*m,none⟩:=by
   unfold gj;rw[cF,hp,gh,cj,fy]
  rw[n];refine Src.ofSlice w i ⟨b,l*m,none⟩ n' c' _ d (λj u hu=>?_) f;have c:j<n'*m:=by
   have:=(c4.1 hu).1;rwa[d]at this
  have hle:(l+n')*m<=s.n*m:=kY _ hl;rw[ke]at hle;rw[cj,bw.cell h (by rw[hlen];omega)];rw[o2,bL c,pY]at hu;exact hu
def lR{α:Type}{f:α->bA bE}{l:bA α}(hf:∀a,(f a).length=m){F:Addr->Prop}{i:Int}{k:Nat}{a:α}(q:Nat)(h:Sep E L w)(o:L[q]?=some (bw s m (bP f l)))(hn:s.n=l.length)(t:i=k)(d:l[k]?=some a)(p:∀b,s.p=some ⟨b,0,none⟩->(∀j v,(f a)[j]?=some v->w.cell? ⟨b,k*m+j,none⟩=some v)->F ⟨b,k*m,none⟩):cM s.p s.n i m F:=by
 have r:=(c4.1 d).1;have g:i.toNat=k:=by omega
 refine bw.el q h o bu bu (λb hb e=>?_);rw[g]at e ⊢;refine p b hb (λj v n=>?_);have c:j<m:=by have:=(c4.1 n).1;rwa[hf]at this
 rw[e j c,sJ hf d j c];exact n
def sM{α:Type}{f:α->bA bE}{l:bA α}(hf:∀a,(f a).length=m){F:bg0}{k j b:Nat}{a a':α}{v:bE}(h:Sep E (bw s m (bP f l)::L) w)(hb:s.p=some ⟨b,0,none⟩)(d:l[k]?=some a)(i:j<m)(e:f a'=(f a).set j v)(n:∀c,Sep E (bw s m (bP f (l.set k a'))::L) c->F c):St ⟨b,k*m+j,none⟩ v F w:=by
 have g:=(c4.1 d).1;refine bw.st h hb ?_ (λc h1=>n c ?_)
 ·rw[nY hf];have:(k+1)*m<=l.length*m:=kY _ g;rw[zp]at this;omega
 ·rw[Dg hf d i e]at h1;exact h1
def Di{α:Type}{f:α->bA bE}(hf:∀a,(f a).length=m)(l:bA α)(k:Nat):(bP f l).take (k*m)=bP f (l.take k):=by
 by_cases hk:k<=l.length
 ·have e:bP f l=bP f (l.take k)++bP f (l.drop k):=by rw[<- m4,fK]
  have hl:(bP f (l.take k)).length=k*m:=by rw[nY hf];simp[o5 hk]
  rw[e,rD bu,iq bu]
 ·rw[iq (by rw[nY hf];exact kY _ bu),iq bu]
def Y1{α:Type}{f:α->bA bE}(hf:∀a,(f a).length=m)(l:bA α)(k:Nat):(bP f l).drop (k*m)=bP f (l.drop k):=by
 by_cases hk:k<=l.length
 ·have e:bP f l=bP f (l.take k)++bP f (l.drop k):=by rw[<- m4,fK]
  have hl:(bP f (l.take k)).length=k*m:=by rw[nY hf];simp[o5 hk]
  rw[e,S9 bu,kW bu,l3]
 ·rw[kW (by rw[nY hf];exact kY _ bu),kW bu];rfl
end
end Go.Sp
namespace Go.Mp
open Go Go.Vc Go.Sp Go.Proofs Go.Kc
variable{E:Env}{L:cv}{w W:bH}
def sN{k:Nat}(h:k<64):2^k<18446744073709551616:=FY (a:=2) (n:=64) bN h
def x6{x k:Nat}(h:x<18446744073709551616)(hk:64<=k:=by omega):x.testBit k=false:=Nat.testBit_lt_two_pow (lG h (tu (n:=2) (i:=64) bN hk))
def pD(o:Obj):Prop:=∃(c:cb bE) (t:cf) (z:Nat×Nat),o=.cells c t z/\∀j,j<64->c[j]?=some (.int .u8 (Lib.deBruijn64tab.getD j 0:Nat))
def pD.cell{w:bH}{o:Obj}(h:pD o)(hb:w.heap[2]?=some o){j:Nat}(b:j<64):w.cell? ⟨2,j,none⟩=some (.int .u8 (Lib.deBruijn64tab.getD j 0:Nat)):=by
 obtain⟨c,t,z,rfl,a⟩:=h;unfold World.cell?;dsimp only;rw[hb];simpa using a j b
def gX(T:bA Bool)(j:Nat):Nat:=wd ((T.drop (64*j)).take 64)
def nW(n:Nat):Nat:=(n+63)/64
def mw(T:bA Bool):bA bE:=(List.range (nW T.length)).map λj=>Value.int .u64 (gX T j:Nat)
def sO(T:bA Bool):(mw T).length=nW T.length:=by simp[mw]
def sP{T:bA Bool}{j:Nat}(h:j<nW T.length):(mw T)[j]?=some (.int .u64 (gX T j:Nat)):=by simp[mw,h]
def pE(T:bA Bool)(j:Nat):gX T j<18446744073709551616:=YP (by simp;omega)
def sQ(T:bA Bool)(j k:Nat)(hk:k<64):(gX T j).testBit k=T.getD (64*j+k) false:=by
 unfold gX;rw[x3,dT,dT,o2,bL hk,pY]
def Y2{T:bA Bool}{i:Nat}(f:i<T.length):(mw T).set (i/64) (.int .u64 ((gX T (i/64) ^^^ 2^(i%64):Nat)))=mw (T.set i (!T.getD i false)):=by
 apply hg;intro j;have hl:(T.set i (!T.getD i false)).length=T.length:=dM;by_cases b:j<nW T.length
 ·have d:j<nW (T.set i (!T.getD i false)).length:=by rw[hl];exact b
  rw[sP d];by_cases e:i/64=j
  ·subst e;rw[iZ (by rw[sO];exact b)];congr 3;apply vX;intro k;by_cases hk:k<64
   ·rw[Nat.testBit_xor,sQ _ _ _ hk,sQ _ _ _ hk,rI];by_cases c:i%64=k
    ·have a:64*(i/64)+k=i:=by omega
     rw[dE c,a,dT (l:=T.set i _),iZ f];simp
    ·have a:i≠64*(i/64)+k:=by omega
     rw[di c,dT (l:=T.set i _),ja a,<- dT,Bool.xor_false]
   ·rw[x6 (F7 (n:=64) (pE _ _) (sN (kL _ bN))),x6 (pE _ _)]
  ·rw[ja e,sP b];congr 3;apply vX;intro k;by_cases hk:k<64
   ·rw[sQ _ _ _ hk,sQ _ _ _ hk];have a:i≠64*j+k:=by omega
    rw[dT (l:=T.set i _),ja a,<- dT]
   ·rw[x6 (pE _ _),x6 (pE _ _)]
 ·rw[g2 (by rw[dM,sO];omega),g2 (by rw[sO,hl];omega)]
def acl(b:Nat)(T:bA Bool):Asn:=fe λs:Sl=>cG (s.n=nW T.length/\T.length<=65536) (star (bC b [Iv (T.length:Nat),Sv s]) (bw s 1 (mw T)))
def acl.get{b:Nat}{T:bA Bool}(h:Sep E (acl b T::L) w):∃s:Sl,s.n=nW T.length/\T.length<=65536/\Sep E (bC b [Iv (T.length:Nat),Sv s]::bw s 1 (mw T)::L) w:=by
 obtain⟨s,h⟩:=Sep.ex.1 h;obtain⟨hn,h⟩:=Sep.cG.1 h;exact⟨s,hn.1,hn.2,Sep.star.1 h⟩
def acl.mk{b:Nat}{T:bA Bool}{s:Sl}(hn:s.n=nW T.length)(hb:T.length<=65536)(h:Sep E (bC b [Iv (T.length:Nat),Sv s]::bw s 1 (mw T)::L) w):Sep E (acl b T::L) w:=
 Sep.ex.2 ⟨s,Sep.cG.2 ⟨⟨hn,hb⟩,Sep.star.2 h⟩⟩
def Y3{n:Int}:min1 (ea n 0) 65536=((min (max n 0).toNat 65536:Nat):Int):=by
 unfold min1 ea;split<;>split<;>omega
def Y4(k:Nat):wd (List.replicate k false)=0:=by
 induction k with
 |zero=>rfl
 |succ k a=>rw[oe];unfold wd;rw[a];rfl
def Y5(n:Int)(h:Sep E L w):Calls P IC #[Iv n] w (cA λv w'=>∃b,v=Pb b/\Sep E (acl b (List.replicate (min (max n 0).toNat 65536) false)::L) w'):=by
 apply Wl;unfold KM;rw[Y3];generalize hm:min (max n 0).toNat 65536=m;have c:m<=65536:=by omega
 have e:(i64.wrap ((i64.wrap ((m:Int)+64))-1)).fdiv (2^(min (6:Int).toNat 64))=((nW m:Nat):Int):=by
  rw[cR (n:=(m:Int)+64) bu bu,cR bu bu,show(m:Int)+64-1=((m+63:Nat):Int) by omega];exact sh _ 6
 rw[e];have f:nW m<=2000:=by unfold nW;omega
 refine⟨bN,makeSlice.i h (by kernel_rfl:hi P Vq=some (8,1,[.int .u64 0])) bu (g3 _) bu bu (λb g h1=>?_)⟩;refine Al.i h1 (λp w2 h2=>⟨p,rfl,?_⟩);refine acl.mk (s:=⟨some ⟨b,0,none⟩,nW m,nW m⟩) (by rw[lF]) (by rw[lF];exact c) ?_;rw[lF];have a:=h2.swap;refine Sep.swap (bw.make (spare:=[]) (vs:=mw (List.replicate m false)) ?_ (by rw[sO,lF,fM]) (by rw[sO,lF];simp) (ep _));have d:((List.range (((nW m:Nat):Int).toNat*1)).map λi=>(([Value.int .u64 0]:bA bE).toArray)[i%([Value.int .u64 0]:bA bE).length]!)=mw (List.replicate m false)++[]:=by
  rw[hs];unfold mw;rw[lF,dz,fM];apply Tk;intro j _;have:gX (List.replicate m false) j=0:=by
   unfold gX;rw[List.drop_replicate,List.take_replicate];exact Y4 _
  rw[this];simp[Nat.mod_one]
 rw[d]at a;exact a
variable{b:Nat}{T:bA Bool}
def M5{q:Nat}(h:Sep E L w)(a:L[q]?=some (acl b T)):Calls P Bx #[Pb b] w (cA λv w'=>v=Iv (T.length:Nat)/\w'=w):=by
 apply VO;unfold Kp qL;obtain⟨s,_,_,h1⟩:=acl.get (h.fr q a);exact⟨_,rfl,_,h1.cell 0,rfl,rfl⟩
def Dj(i:Nat):bU .i64 (i:Int) 63=((i%64:Nat):Int):=by
 have h1:(BitVec.ofInt 64 (i:Int) &&& BitVec.ofInt 64 63).toNat=i%64:=by
  rw[wc,pX,tw];have:(BitVec.ofInt 64 63).toNat=63:=by decide
  rw[this];have h2:=tq (i%2^64) 6;rw[show(2:Nat)^6-1=63 by decide]at h2;rw[h2];omega
 show i64.wrap ((BitVec.ofInt 64 (i:Int) &&& BitVec.ofInt 64 63).toNat:Int)=_;rw[h1];exact cR bu bu
def uX(i:Nat)(w:bH):Calls P CM #[Iv (i:Nat)] w (cA λv w'=>v=.tuple #[Iv ((i/64:Nat):Int),.int .u64 ((2^(i%64):Nat):Int)]/\w'=w):=by
 apply Yz;unfold MK;have a:i%64<64:=kL _ bN;have hp:2^(i%64)<18446744073709551616:=sN a;rw[Dj,ds,show((i:Nat):Int).fdiv (2^(min (6:Int).toNat 64))=((i/64:Nat):Int)from sh i 6];refine⟨bN,bu,?_,rfl⟩;have e:(min ((i%64:Nat):Int).toNat 64)=i%64:=by rw[dz];omega
 rw[e,Int.one_mul];have b:((2:Int)^(i%64))=((2^(i%64):Nat):Int):=by push_cast;rfl
 rw[b,ds hp]
def Y6{q:Nat}(h:Sep E L w)(k:L[q]?=some (acl b T))(i:Int):Calls P JC #[Pb b,Iv i] w (cA λv w'=>v=.bool (decide (0<=i)&&T.getD i.toNat false)/\w'=w):=by
 apply Yy;unfold MJ qK qL qW qg zC;obtain⟨s,hn,hb,h1⟩:=acl.get (h.fr q k);refine⟨λw'=>w'=w/\0<=i/\i<T.length,cX (λd=>⟨by rw[di bu];rfl,rfl⟩) (λd=>⟨_,rfl,_,h1.cell 0,hD (λc=>⟨?_,rfl⟩) (λc=>⟨rfl,d,c⟩)⟩),?_⟩;·rw[dT,g2 bu];simp
 ·rintro _ w2 ⟨rfl,f,m⟩;obtain⟨n,rfl⟩:∃n:Nat,i=n:=⟨i.toNat,bu⟩
  refine use (uX n w2) ?_;rintro _ p ⟨rfl,rfl⟩;have j:n/64<nW T.length:=by unfold nW;omega
  refine⟨_,_,rfl,_,rfl,s,h1.cell 1,bw.el 1 h1 rfl bu bu (λo l g=>⟨((gX T (n/64):Nat):Int),?_,?_,rfl⟩)⟩
  ·have:=g 0 bN;rw[k1]at this;rw[this,fM,dz,sP j]
  ·rw[sF (pE _ _) (sN (kL _ bN))];have e:gX T (n/64) &&& 2^(n%64)=if T.getD n false then 2^(n%64)else 0:=by
    have a:=sQ T (n/64) (n%64) (kL _ bN);rw[show 64*(n/64)+n%64=n by omega]at a;unfold gX at a ⊢;rw[YQ,<- x3,a]
   rw[e,dE f,dz];have hp:(2^(n%64):Nat)≠0:=Nat.pos_iff_ne_zero.1 (y9 _);cases T.getD n false with
   |true=>simp only[gQ,l4];congr 1;rw[bne_iff_ne];omega
   |false=>simp
def jl(T:bA Bool)(i:Int)(on:Bool):bA Bool×Bool:=
 if i<0\/(T.length:Int)<=i\/T.getD i.toNat false=on then(T,false)else(T.set i.toNat on,true)
def M6(h:Sep E (acl b T::L) w)(i:Int)(on:Bool):Calls P CF #[Pb b,Iv i,.bool on] w (cY E (.bool (jl T i on).2) (acl b (jl T i on).1::L)):=by
 apply Yd;unfold Ms qF qK qL qW qg zC;dsimp only;obtain⟨s,hn,hb,h1⟩:=acl.get h;have bad:(i<0\/(T.length:Int)<=i\/T.getD i.toNat false=on)->Value.bool false=.bool (jl T i on).2/\Sep E (acl b (jl T i on).1::L) w:=by
  intro a;unfold jl;rw[bL a];exact⟨rfl,h⟩
 refine⟨λw'=>w'=w/\∃n:Nat,i=n/\n<T.length/\on= !T.getD n false,cX (λa=>bad (.inl a)) (λa=>⟨_,rfl,_,h1.cell 0,hD (λo=>bad (.inr (.inl o))) (λo=>?_)⟩),?_⟩
 ·refine use (Y6 (q:=0) h rfl i) ?_;rintro _ f ⟨rfl,rfl⟩;rw[dE a,l4];refine⟨_,rfl,?_⟩;cases he:(T.getD i.toNat false==on)with
  |true=>exact bad (.inr (.inr (by simpa using he)))
  |false=>
   refine⟨rfl,i.toNat,bu,bu,?_⟩;have:T.getD i.toNat false≠on:=by simpa using he
   revert this;generalize T.getD i.toNat false=y;cases y<;>cases on<;>simp
 ·rintro _ w2 ⟨rfl,n,rfl,r,rfl⟩;refine use (uX n w2) ?_;rintro _ f ⟨rfl,rfl⟩;have p:n/64<nW T.length:=by unfold nW;omega
  have m:∀c,s.p=some ⟨c,0,none⟩->(∀j,j<1->f.cell? ⟨c,((n/64:Nat):Int).toNat*1+j,none⟩=(mw T)[((n/64:Nat):Int).toNat*1+j]?)->f.cell? ⟨c,((n/64:Nat):Int).toNat*1,none⟩=some (.int .u64 ((gX T (n/64):Nat):Int)):=by
   intro c _ d;have:=d 0 bN;rw[k1]at this;rw[this,fM,dz,sP p]
  refine⟨_,_,rfl,_,rfl,s,h1.cell 1,bw.el 1 h1 rfl bu bu (λc k d=>⟨_,m c k d,bw.el 1 h1 rfl bu bu (λb2 l _=>?_)⟩)⟩;rw[YN (pE _ _) (sN (kL _ bN))];refine bw.st h1.swap l (by rw[sO,dz,fM];exact p) (λt g=>?_);have e:jl T (n:Int) (!T.getD n false)=(T.set n (!T.getD n false),true):=by
   unfold jl;rw[bJ,dz];rintro(a|a|a);·omega
   ·omega
   ·rw[dz]at a;revert a;generalize T.getD n false=y;cases y<;>decide
  rw[e];refine⟨rfl,acl.mk (by rw[dM];exact hn) (by rw[dM];exact hb) ?_⟩;rw[dz,fM,Y2 r]at g;rw[dM];exact g.swap
def Dk{w:bH}{o:Obj}(ho:pD o)(g:w.heap[2]?=some o){x:Nat}(d:x≠0)(hx:x<18446744073709551616):Calls P JI #[.int .u64 (x:Nat)] w (cA λv w'=>v=Iv (Lib.ctz 64 x:Nat)/\w'=w):=by
 apply YK;unfold MV;refine eX (λe=>absurd e bu) (λ_=>?_);obtain⟨b,hk⟩:=Lib.lowest_bit 64 x d hx;obtain⟨f,c⟩:=Lib.deBruijn64_at _ hk;rw[YT x _ hx d b];have a:=ho.cell g f;rw[c]at a;refine⟨bN,⟨2,0,none⟩,rfl,⟨bu,by exact_mod_cast f⟩,((Lib.ctz 64 x:Nat):Int),?_,?_,rfl⟩;·rw[cj,fy,fM,dz];exact a
 ·rw[cR bu bu]
def Y7{T:bA Bool}:∀ {n i:Nat},(∀j,j<i->T[j]?=some true)->T[i]?=some false->firstFree n T=some (n+i):=by
 induction T with
 |nil=>intro n i _ h;simp at h
 |cons b T c=>
  intro n i h1 h2;unfold firstFree;cases i with
  |zero=>simp only[lE,fU]at h2;subst h2;rfl
  |succ i=>
   have a:=h1 0 bu;simp only[lE,fU]at a;subst a;rw[bL rfl,c (n:=n+1) (i:=i) (λj d=>by simpa using h1 (j+1) bu) (by simpa using h2)];congr 1;omega
def Y8{T:bA Bool}:∀ {n:Nat},(∀j,j<T.length->T[j]?=some true)->firstFree n T=none:=by
 induction T with
 |nil=>intro n _;rfl
 |cons b T d=>
  intro n h;have a:=h 0 (by simp);simp only[lE,fU]at a;subst a;unfold firstFree;rw[bL rfl];exact d (λj c=>by simpa using h (j+1) (by simpa using c))
def Y9{o:Obj}(ho:pD o){q:Nat}(h:Sep E L w)(J:L[q]?=some (acl b T))(D:w.heap[2]?=some o):Calls P JD #[Pb b,Iv 0,.bool false] w
  (cA λv w'=>v=Iv (match firstFree 0 T with|some i=>(i:Int)|none=> -1)/\w'=w):=by
 apply YE;unfold MP q9 qK qL qO qQ qW;obtain⟨s,hn,hb,h1⟩:=acl.get (h.fr q J);have Q:nW T.length<=2000:=by unfold nW;omega
 refine⟨_,rfl,s,h1.cell 1,?_⟩;refine⟨λx w'=>w'=w/\∃j:Nat,x=j/\j<=nW T.length/\∀i,i<64*j->i<T.length->T[i]?=some true,λx _=>(nW T.length-x).toNat,⟨rfl,0,rfl,e7 _,λi f=>bu⟩,?_⟩;rintro _ x K ⟨rfl,j,rfl,S,c⟩;have z:i64.wrap ((j:Int)+1)=((j+1:Nat):Int):=by rw[cR bu bu];omega
 refine cX (λO=>?_) (λN=>?_)
 ·have r:j<nW T.length:=by omega
  refine⟨_,rfl,s,h1.cell 1,bw.el 1 h1 rfl bu bu (λR M H=>⟨((gX T j:Nat):Int),?_,?_⟩)⟩
  ·have:=H 0 bN;rw[k1]at this;rw[this,fM,dz,sP r]
  ·generalize A:(18446744073709551615 ^^^ gX T j)=y;have p:y<18446744073709551616:=by rw[<- A];exact F7 (n:=64) bN (pE _ _)
   have d:∀k,k<64->y.testBit k= !T.getD (64*j+k) false:=λk hk=>by rw[<- A,YS hk,sQ _ _ _ hk]
   have next:(∀i,i<64*(j+1)->i<T.length->T[i]?=some true)->(∃B:Nat,i64.wrap ((j:Int)+1)=B/\B<=nW T.length/\∀i,i<64*B->i<T.length->T[i]?=some true):=λg=>⟨j+1,z,r,g⟩
   have hm:ea 0 0=0:=by decide
   have F:i64.wrap ((j:Int)*2^(min (6:Int).toNat 64))=((64*j:Nat):Int):=by
    have:((j:Int)*2^(min (6:Int).toNat 64))=((64*j:Nat):Int):=by
     show(j:Int)*2^6=_;omega
    rw[this];exact cR bu bu
   refine⟨λx w'=>x=(y:Nat)/\w'=K,?_,?_⟩
   ·refine bT rfl ⟨?_,rfl⟩;rw[YO (pE _ _),A]
   ·rintro _ _ w2 ⟨rfl,rfl⟩;rw[hm,F];refine⟨λx w'=>x=(y:Nat)/\w'=w2,⟨bN,?_⟩,?_⟩
    ·rw[cR bu bu];refine hD (λg=>absurd g bu) (λ_=>gn (λg=>absurd g bu) (λ_=>⟨rfl,rfl⟩))
    ·rintro _ _ U ⟨rfl,rfl⟩;refine eX (λe=>?_) (λe=>?_)
     ·
      have e:y=0:=by omega
      refine⟨⟨rfl,next (λi f a=>?_)⟩,by dsimp only;rw[z];omega⟩;rcases hN i (64*j)with h2|h2;·exact c i h2 a
      ·have:=d (i-64*j) bu;rw[e,Nat.zero_testBit,show 64*j+(i-64*j)=i by omega,dT,dL a]at this;rw[dL a];simp at this;rw[this]
     ·have u:y≠0:=by omega
      refine⟨bN,use (Dk ho D u p) ?_⟩;rintro _ V ⟨rfl,rfl⟩;obtain⟨hk,m,C⟩:=YR u p;generalize Lib.ctz 64 y=k at*
      have G:i64.wrap ((((64*j:Nat):Int))+((k:Nat):Int))=((64*j+k:Nat):Int):=by rw[cR bu bu];omega
      refine⟨_,rfl,_,rfl,_,h1.cell 0,?_⟩;rw[G];have t:∀i,i<64*j+k->i<T.length->T[i]?=some true:=by
       intro i f a;rcases hN i (64*j)with h2|h2;·exact c i h2 a
       ·have:=C (i-64*j) bu;rw[d _ bu,show 64*j+(i-64*j)=i by omega,dT,dL a]at this;rw[dL a];simp at this;rw[this]
      refine cX (λl=>?_) (λI=>?_)
      ·have l:64*j+k<T.length:=by omega
       have:T[64*j+k]?=some false:=by
        rw[d _ hk,dT,dL l]at m;rw[dL l];simp at m;rw[m]
       rw[Y7 (n:=0) (λi f=>t i f bu) this];refine⟨?_,rfl⟩;dsimp only;rw[fy]
      ·refine⟨⟨rfl,next (λi f a=>t i bu a)⟩,by dsimp only;rw[z];omega⟩
 ·have:j=nW T.length:=by omega
  subst this;rw[Y8 (λi f=>c i (by unfold nW;omega) f)];exact⟨rfl,rfl⟩
def ga(p:Nat)(T:bA Bool):Asn:=fe λb:Nat=>cG (T.length<=1024) (star (bC p [Pb b]) (acl b T))
def ga.get{p:Nat}{T:bA Bool}(h:Sep E (ga p T::L) w):∃b,T.length<=1024/\Sep E (bC p [Pb b]::acl b T::L) w:=by
 obtain⟨b,h⟩:=Sep.ex.1 h;obtain⟨hn,h⟩:=Sep.cG.1 h;exact⟨b,hn,Sep.star.1 h⟩
def ga.mk{p b:Nat}{T:bA Bool}(hn:T.length<=1024)(h:Sep E (bC p [Pb b]::acl b T::L) w):Sep E (ga p T::L) w:=Sep.ex.2 ⟨b,Sep.cG.2 ⟨hn,Sep.star.2 h⟩⟩
def Za(n:Int)(h:Sep E L w):Calls P Ig #[Iv n] w (cA λv w'=>∃p,v=Pb p/\Sep E (ga p (iF n)::L) w'):=by
 apply VS;unfold Ku qR;refine use (Y5 (min1 n 1024) h) ?_;rintro _ a ⟨b,rfl,h1⟩;have e:(min (max (min1 n 1024) 0).toNat 65536)=min (max n 0).toNat 1024:=by unfold min1;split<;>omega
 rw[e]at h1;exact⟨_,rfl,Al.i h1 (λp w2 h2=>⟨p,rfl,ga.mk (by unfold iF;rw[lF];omega) h2⟩)⟩
variable{p:Nat}
def Zb{o:Obj}(ho:pD o)(h:Sep E (ga p T::L) w)(f:w.heap[2]?=some o):Calls P sA #[Pb p] w
  (cY E (.tuple #[Iv (fW T).2.1,Iv (fW T).2.2]) (ga p (fW T).1::L)):=by
 apply Yp;unfold MA qF qQ qZ;obtain⟨b,hb,h2⟩:=ga.get h;refine⟨_,rfl,_,h2.cell 0,use (Y9 ho (q:=1) h2 rfl f) ?_⟩;rintro _ w2 ⟨rfl,rfl⟩;refine⟨_,rfl,?_⟩;unfold fW;cases hf:firstFree 0 T with
 |none=>exact cX (λ_=>⟨rfl,h⟩) (λa=>absurd a bN)
 |some i=>
  dsimp only;obtain⟨_,c,_⟩:=AL hf;rw[Gw]at c;have g:=(c4.1 c).1;refine cX (λa=>absurd a bu) (λ_=>⟨_,rfl,_,h2.cell 0,use (M6 h2.swap (i:Int) true) ?_⟩);rintro _ j ⟨rfl,d⟩;have e:jl T (i:Int) true=(T.set i true,true):=by
   unfold jl;rw[bJ,dz];rintro(a|a|a);·omega
   ·omega
   ·rw[dz,dT,c]at a;cases a
  rw[e]at d;exact⟨_,rfl,rfl,ga.mk (by rw[dM];exact hb) d.swap⟩
def Zc(h:Sep E (ga p T::L) w)(i:Int):Calls P Je #[Pb p,Iv i] w
  (cY E (Iv (nn T i).2) (ga p (nn T i).1::L)):=by
 apply XF;unfold LU qF qQ qZ qh;obtain⟨b,hb,h2⟩:=ga.get h;refine⟨λx w'=>w'=w/\x=decide (i<0\/(T.length:Int)<=i),cX (λc=>⟨rfl,by rw[dE (.inl c)]⟩) (λc=>⟨_,rfl,_,h2.cell 0,use (M5 (q:=1) h2 rfl) ?_⟩),?_⟩
 ·rintro _ w2 ⟨rfl,rfl⟩;refine⟨_,rfl,rfl,?_⟩;by_cases e:(T.length:Int)<=i;·rw[dE (show i≥(T.length:Int)from e),dE (.inr e)]
  ·rw[di (show ¬ i≥(T.length:Int)from e),di bu]
 ·rintro _ x w2 ⟨rfl,rfl⟩;unfold nn;by_cases a:i<0\/(T.length:Int)<=i;·rw[dE a,bL a];exact⟨rfl,h⟩
  ·rw[di a,bJ a];refine⟨_,rfl,_,h2.cell 0,use (M6 h2.swap i false) ?_⟩;rintro _ f ⟨rfl,d⟩;refine⟨_,rfl,?_⟩;unfold jl at d ⊢;by_cases hf:T.getD i.toNat false=false
   ·rw[bL (.inr (.inr hf))]at d ⊢;rw[bL hf];exact⟨rfl,ga.mk hb d.swap⟩
   ·have hn:¬ (i<0\/(T.length:Int)<=i\/T.getD i.toNat false=false):=by
     rintro(c|c|c);·exact a (.inl c)
     ·exact a (.inr c)
     ·exact hf c
    rw[bJ hn]at d ⊢;rw[bJ hf];exact⟨rfl,ga.mk (by rw[dM];exact hb) d.swap⟩
end Go.Mp
namespace Go.Sp
open Go Go.Vc
variable{E:Env}{L:cv}{w:bH}
def Ints(E:Env)(L:cv)(s:Sl)(gs:bR):Prop:=s.n=gs.length/\∀w,Sep E L w->∀(i:Nat) x,gs[i]?=some x->∃a,s.p=some a/\w.cell? (a.add i)=some (.int .i64 x)
def Ints.of{L':cv}{s:Sl}{gs:bR}(h:Ints E L s gs)(hw:∀w,Sep E L' w->Sep E L w):Ints E L' s gs:=⟨h.1,λw a=>h.2 w (hw w a)⟩
def Ints.cons{A:Asn}{s:Sl}{gs:bR}(h:Ints E L s gs):Ints E (A::L) s gs:=h.of (λ_ a=>a.tail)
def Ints.el{s:Sl}{gs:bR}{i x:Int}{F:Int->Prop}(b:Ints E L s gs)(h:Sep E L w)(k:Nat)(g:i=k)(hx:gs[k]?=some x)(f:F x):cM s.p s.n i 1 λa=>∃v:Int,w.cell? a=some (.int .i64 v)/\F v:=by
 have d:=(c4.1 hx).1;obtain⟨a,hp,c⟩:=b.2 w h k x hx;have:=b.1;refine⟨a,hp,⟨bu,bu⟩,x,?_,f⟩;have e:i.toNat*1=k:=by omega
 rw[e];exact c
def Ints.row{s:Sl}{gs:bR}(hn:s.n=gs.length):Ints E (bw s 1 (bD gs)::L) s gs:=by
 refine⟨hn,λw h i x hx=>?_⟩;have a:=(c4.1 hx).1;obtain⟨b,spare,hp,h1,_,_,h2⟩:=bw.ik h bu;refine⟨_,hp,?_⟩;rw[cj,fy,bw.cell h2 (by rw[h1];omega)];simp[bD,hx]
def Ints.at_{s:Sl}{gs:bR}{q:Nat}(a:L[q]?=some (bw s 1 (bD gs)))(hn:s.n=gs.length):Ints E L s gs:=
 (Ints.row (L:=L.eraseIdx q) hn).of (λ_ h=>h.fr q a)
def Ints.jm{b c:Nat}{gs:bR}{q:Nat}(a:L[q]?=some (bC b (bD gs))):Ints E L ⟨some ⟨b,0,none⟩,gs.length,c⟩ gs:=by
 refine⟨rfl,λw h i x hx=>⟨_,rfl,?_⟩⟩;rw[cj,fy,h.cellAt q a,x5,hx];rfl
def de{k:Nat}(h:k<4611686018427387904:=by omega):i64.wrap ((k:Int)+1)=((k+1:Nat):Int):=by rw[cR bu bu];omega
def fL{α:Type}{l:bA α}{k:Nat}{c:α}(h:l[k]?=some c):l.take (k+1)=l.take k++[c]:=by rw[mF,h];rfl
def lk{α:Type}{f:α->bA bE}{m n:Nat}{l:bA α}{i:Int}{F:Addr->Prop}{b q:Nat}(hf:∀a,(f a).length=m)(h:Sep E L w)(o:L[q]?=some (bC b (bP f l)))(hn:l.length=n)(g:0<=i)(h1:i<n)(k:∀a,l[i.toNat]?=some a->(∀j v,(f a)[j]?=some v->w.cell? ⟨b,i.toNat*m+j,none⟩=some v)->F ⟨b,i.toNat*m,none⟩):cM (some ((⟨b,0,none⟩:Addr).add 0)) n i m F:=by
 have c:i.toNat<l.length:=by omega
 refine⟨_,rfl,⟨g,h1⟩,?_⟩;rw[cj,cj,fy];refine k _ (dL c) (λj v d=>?_);have e:j<m:=by have:=(c4.1 d).1;rwa[hf]at this
 rw[h.cellAt q o,sJ hf (dL c) j e];exact d
end Go.Sp
namespace Go.Mp
open Go Go.Vc Go.Proofs
variable{K:bg1}{w:bH}
variable(K w)
def M7(cx cT:Int)(bY:Sl):=
 qR Bn #[Iv cx,Iv cT,Sv bY] w λd b=>Al (.cells #[Pv d,aN8] 71) (λa c=>K (Pv (some a)) c) b
def M8(v:ch):=
 NN v λa=>qZ w a 0 λb=>K (Pv b) w
def M9(v:ch)(E F G H I:Int):=
 Al (.cells #[Iv E,Iv F,Iv G,Iv H,Iv I] 37) (λb w2=>zW w2 λc ar=>Dr (λY=>qL Y b 0 λal=>Calls P H9 #[] Y λaq g=>∃ap:bW Nat,aq=.returned (.map ap)/\zH g b 0 (Iv al) λau=>∃h:bE,gr P 86 (.map ap) (Iv al) false g h/\∃k:Bool,kh P .neq 85 h .nilFunc k/\cond k (zL g b λaa ab ad ae af=>eY P h #[Pv v,.agg #[Iv aa,Iv ab,Iv ad,Iv ae,Iv af]] g λB X=>∃s:Int,∃t:Int,∃u:Sl,B=.returned (.agg #[Iv s,Iv t,Sv u])/\qU [Iv s,Iv t,Sv u] c X λm=>zI m c λJ L M=>K (.agg #[Iv J,Iv L,Sv M]) m) (Dr (λn=>zZ n b λe x=>Calls P Ia #[] n λC d=>∃i:bW Nat,C=.returned (.map i)/\zH d b 1 (Iv x) λav=>zH d b 0 (Iv e) λaw=>∃f:bE,gr P 89 (.map i) (Iv e) false d f/\qR uE #[Pv v,Iv x] d λy a=>∃z:bE,gr P 89 (.map i) (Iv e) false a z/\(z:bE)=f/\zH a b 0 (Iv e) λax=>∃l:Bool,kh P .eql 88 f .nilFunc l/\cond l (qU [Iv 1,Iv 0,aN8] c a λo=>zI o c λN O Q=>K (.agg #[Iv N,Iv O,Sv Q]) o) (cond y.isNone (qU [Iv 2,Iv 0,aN8] c a λp=>zI p c λR S T=>K (.agg #[Iv R,Iv S,Sv T]) p) (zL a b λag ah ai aj ak=>Al (.cells #[Iv ag,Iv ah,Iv ai,Iv aj,Iv ak,Pv v,Pv y,Iv 0,Iv 0,aN8] 93) (λj Z=>eY P f #[Pv (some j)] Z λD q=>D=.returned (.tuple #[])/\NN (some j) λA=>zI q (A.add 7) λam an ao=>qU [Iv am,Iv an,Sv ao] c q λr=>zI r c λU V W=>K (.agg #[Iv U,Iv V,Sv W]) r) a))) g)) ar) w
def Na(v:ch):=
 NN v λF=>qK w F 1 λx=>qf ⟨none,0,0⟩ 0 w λE k j i=>fB j x.n (qW x j 2 λa9=>zq i a9 λr s=>Al (.cells #[Iv 0,Pv none] 95) (λc m=>qU [Iv r,Pv s] c m λe=>zq e c λt u=>zz e λa n=>qU [Iv t,Iv 0,.bool (!u.isNone)] a n λb=>qg (λd=>qy b a 2 λy=>cond y (qZ b c 1 λz=>qQ Ib #[Pv z] b λA o=>St (a.add 1) (Iv A) (λp=>d p) o) (d b)) λf=>qa f a λB C D=>Al (.cells #[Iv B,Iv C,.bool D] 42) (λl q=>∃h:Sl,∃g:bH,Sem.run P (Builtin.append_ #[39,39] 39 #[Sv k,.slice (some l) 1 1]) q=.ok (Sv h) g/\(E h (i64.wrap (j+1)) g)) f) i) (K (Sv k) i)
def Nb(v:ch)(pid:Int):=
 qg (λa=>ed pid 0 (K (Pv none) w) (NN v λa4=>qK w a4 1 λd=>cond (decide (pid≥((d.n:Nat):Int))) (K (Pv none) w) (a w))) λw2=>NN v λb=>qK w2 b 1 λe=>qW e pid 2 λc=>qZ w2 c 1 λf=>K (Pv f) w2
def Nc(s:ch):=
 qJ Bo #[Pv s,Iv 0,Iv 65536] w λb a=>K (Sv b) a
def Nd(cx cT:Int)(bY l:Sl):=
 qR uB #[Iv cx,Iv cT,Sv bY] w λD C=>qf ⟨none,0,0⟩ 0 C λB a g f=>fB g l.n (qW l g 5 λh=>zL f h λn o p q r=>Al (.cells #[Iv 0,Iv 0,Iv 0,Iv 0,Iv 0] 37) (λb j=>qU [Iv n,Iv o,Iv p,Iv q,Iv r] b j λc=>zL c b λs t u v x=>zx pw #[Pv D,.agg #[Iv s,Iv t,Iv u,Iv v,Iv x]] c λy z A k=>Al (.cells #[Iv y,Iv z,Sv A] 33) (λi m=>∃e:Sl,∃d:bH,Sem.run P (Builtin.append_ #[60,60] 60 #[Sv a,.slice (some i) 1 1]) m=.ok (Sv e) d/\(B e (i64.wrap (g+1)) d)) k) f) (K (Sv a) f)
def Zd:=
 mK (λa w2=>∃b:bH,Sem.run P (Instr.mapUpdate 86 (.map (some a)) (Iv 0) (.func (.func xh) #[] #[])) w2=.ok () b/\∃c:bH,Sem.run P (Instr.mapUpdate 86 (.map (some a)) (Iv 1) (.func (.func xi) #[] #[])) b=.ok () c/\∃d:bH,Sem.run P (Instr.mapUpdate 86 (.map (some a)) (Iv 2) (.func (.func xj) #[] #[])) c=.ok () d/\∃e:bH,Sem.run P (Instr.mapUpdate 86 (.map (some a)) (Iv 3) (.func (.func xk) #[] #[])) d=.ok () e/\∃f:bH,Sem.run P (Instr.mapUpdate 86 (.map (some a)) (Iv 12) (.func (.func xl) #[] #[])) e=.ok () f/\∃g:bH,Sem.run P (Instr.mapUpdate 86 (.map (some a)) (Iv 13) (.func (.func xm) #[] #[])) f=.ok () g/\K (.map (some a)) g) w
def Ze:=
 mK (λa w2=>∃c:bH,Sem.run P (Instr.mapUpdate 89 (.map (some a)) (Iv 4) (.func (.func xn) #[] #[])) w2=.ok () c/\∃d:bH,Sem.run P (Instr.mapUpdate 89 (.map (some a)) (Iv 11) (.func (.func xo) #[] #[])) c=.ok () d/\∃e:bH,Sem.run P (Instr.mapUpdate 89 (.map (some a)) (Iv 5) (.func (.func xp) #[] #[])) d=.ok () e/\∃f:bH,Sem.run P (Instr.mapUpdate 89 (.map (some a)) (Iv 6) (.func (.func xq) #[] #[])) e=.ok () f/\∃g:bH,Sem.run P (Instr.mapUpdate 89 (.map (some a)) (Iv 7) (.func (.func xr) #[] #[])) f=.ok () g/\∃h:bH,Sem.run P (Instr.mapUpdate 89 (.map (some a)) (Iv 8) (.func (.func xt) #[] #[])) g=.ok () h/\∃i:bH,Sem.run P (Instr.mapUpdate 89 (.map (some a)) (Iv 9) (.func (.func xu) #[] #[])) h=.ok () i/\∃b:bH,Sem.run P (Instr.mapUpdate 89 (.map (some a)) (Iv 10) (.func (.func xv) #[] #[])) i=.ok () b/\K (.map (some a)) b) w
def Nf(s:ch):=
 NN s λa=>qZ w a 1 λc=>qQ Ic #[Pv c] w λd b=>K (Iv d) b
def Ng(s:ch)(b k:Int):=
 NN s λy=>qZ w y 1 λA=>qJ xx #[Pv A,Iv b,Iv k] w λv z=>qf ⟨none,0,0⟩ 0 z λx c a h=>fB a v.n (qW v a 1 λi=>qD h i λo=>zy sn #[Pv s,Iv o] h λp q r t B l=>zu l λd m=>qU [Iv p,Iv q,.bool r,.bool t] d m λe=>qL e d 1 λu=>qC #[Iv u] e λj n=>∃g:Sl,∃f:bH,Sem.run P (Builtin.append_ #[22,22] 22 #[Sv c,.slice (some j) 1 1]) n=.ok (Sv g) f/\(x g (i64.wrap (a+1)) f)) (K (Sv c) h)
def Nh(v:ch)(c d e f g:Int):=
 Al (.cells #[Iv c,Iv d,Iv e,Iv f,Iv g] 37) (λo w2=>zW w2 λh p=>Dr (λb=>NN v λn=>qZ b n 0 λr=>qL b o 1 λs=>qj Ij #[Pv r,Iv s] b λl m q=>qU [Iv m,Iv (ea l 0),aN8] h q λa=>zI a h λi j k=>K (.agg #[Iv i,Iv j,Sv k]) a) p) w
def Ni(v:ch)(t u x y z:Int):=
 Al (.cells #[Iv t,Iv u,Iv x,Iv y,Iv z] 37) (λd w2=>zW w2 λj X=>qh (λp=>Dr (λh=>qL h d 1 λL=>cond (L !=0) (NN v λq=>qZ h q 0 λM=>qL h d 1 λn=>qR uF #[Pv M] h λN k=>zH k d 1 (Iv n) λY=>qF j8 #[Pv N,Iv n] k λO G=>p O G) (p false h)) X) λi J=>NN v λr=>qK J r 1 λo=>qO 0 J λc b f=>fB b o.n (qW o b 2 λa28=>zq f a28 λP Q=>Al (.cells #[Iv 0,Pv none] 95) (λe H=>qU [Iv P,Pv Q] e H λa=>cond i (qZ a e 1 λR=>cond (!R.isNone) (qL a e 0 λS=>qL a d 1 λT=>cond (S==T) (qU [Iv 4,Iv 0,aN8] j a λl=>zI l j λA B C=>K (.agg #[Iv A,Iv B,Sv C]) l) ((c (i64.wrap (b+1)) a))) ((c (i64.wrap (b+1)) a))) ((c (i64.wrap (b+1)) a))) f) (Dr (λg=>NN v λs=>qZ g s 0 λU=>qL g d 1 λV=>qQ Ik #[Pv U,Iv V] g λW I=>qU [Iv W,Iv 0,aN8] j I λm=>zI m j λD E F=>K (.agg #[Iv D,Iv E,Sv F]) m) f)) w
def Nj(v:ch)(d e f g h:Int):=
 Al (.cells #[Iv d,Iv e,Iv f,Iv g,Iv h] 37) (λc w2=>zW w2 λi q=>Dr (λa=>NN v λp=>qZ a p 0 λr=>qL a c 1 λs=>qL a c 2 λt=>qL a c 3 λn=>qQ Il #[Pv r,Iv s,Iv t,Iv n] a λo m=>qU [Iv o,Iv 0,aN8] i m λb=>zI b i λj k l=>K (.agg #[Iv j,Iv k,Sv l]) b) q) w
def Nk(v:ch)(k l m n o:Int):=
 Al (.cells #[Iv k,Iv l,Iv m,Iv n,Iv o] 37) (λc w2=>zW w2 λb M=>Dr (λj=>NN v λL=>qZ j L 0 λN=>qL j c 1 λJ=>qR uF #[Pv N] j λC B=>zH B c 1 (Iv J) λO=>qF j8 #[Pv C,Iv J] B λD a=>dX D (qU [Iv 2,Iv 0,aN8] b a λd=>zI d b λp q r=>K (.agg #[Iv p,Iv q,Sv r]) d) (NN v λa20=>qK a a20 1 λE=>cond (decide (((E.n:Nat):Int)≥64)) (qU [Iv 3,Iv 0,aN8] b a λe=>zI e b λs t u=>K (.agg #[Iv s,Iv t,Sv u]) e) (Dr (λf=>qL f c 1 λi=>qR Im #[] f λF g=>zH g c 1 (Iv i) λP=>zx BA #[Pv v,Iv i,Pv F] g λG H I A=>qU [Iv G,Iv H,Sv I] b A λh=>zI h b λx y z=>K (.agg #[Iv x,Iv y,Sv z]) h) a))) M) w
def Nl(v:ch)(c d e f g:Int):=
 Al (.cells #[Iv c,Iv d,Iv e,Iv f,Iv g] 37) (λn w2=>zW w2 λh o=>Dr (λb=>NN v λm=>qZ b m 0 λq=>qL b n 1 λr=>qQ Io #[Pv q,Iv r] b λl p=>qU [Iv 0,Iv l,aN8] h p λa=>zI a h λi j k=>K (.agg #[Iv i,Iv j,Sv k]) a) o) w
def Nm(v:ch)(c d e f g:Int):=
 Al (.cells #[Iv c,Iv d,Iv e,Iv f,Iv g] 37) (λh w2=>zW w2 λi p=>Dr (λa=>NN v λo=>qZ a o 0 λq=>qL a h 1 λr=>qL a h 2 λs=>qQ Ip #[Pv q,Iv r,Iv s] a λn m=>qU [Iv 0,Iv n,aN8] i m λb=>zI b i λj k l=>K (.agg #[Iv j,Iv k,Sv l]) b) p) w
def Nn(c:ch):=
 Dr (λb=>NN c λr=>qZ b r 5 λs=>NN s λa4=>qZ b a4 0 λt=>NN c λg=>qL b (g.add 0) 2 λq=>qR uF #[Pv t] b λk j=>zH j (g.add 0) 2 (Iv q) λu=>qF j8 #[Pv k,Iv q] j λl d=>dX l (NN c λe=>St ((e.add 7).add 0) (Iv 2) (λh=>K aN4 h) d) (Dr (λa=>NN c λf=>qZ a f 5 λm=>NN m λa20=>qK a a20 1 λn=>NN c λa22=>qL a (a22.add 0) 1 λo=>NN c λa24=>qL a (a24.add 0) 2 λp=>qW n o 2 λa26=>St (a26.add 0) (Iv p) (λi=>K aN4 i) a) d)) w
def No(c:ch):=
 Dr (λa=>NN c λb=>qZ a b 5 λe=>NN c λa4=>qL a (a4.add 0) 1 λf=>qE BB #[Pv e,Iv f] a λd=>K aN4 d) w
def Np(c:ch):=
 qF xA #[Pv c] w λl e=>cond l (Dr (λa=>NN c λa5=>qZ a a5 6 λm=>NN c λk=>qL a (k.add 0) 3 λn=>NN c λa9=>qL a (a9.add 0) 3 λh=>NN c λb=>qL a (b.add 0) 2 λi=>qQ xB #[Pv m,.agg #[Iv n,Iv (i64.wrap (h+i)),Iv 1,Iv 0,Iv 0,.bool true]] a λj f=>NN c λd=>St ((d.add 7).add 0) (Iv j) (λg=>K aN4 g) f) e) (K aN4 e)
def Nq(c:ch):=
 qF xA #[Pv c] w λP r=>dX P (K aN4 r) (qg (λM=>Dr (λd=>NN c λN=>qL d (N.add 0) 4 λQ=>ed Q 0 (NN c λi=>St ((i.add 7).add 0) (Iv 1) (λs=>K aN4 s) d) (NN c λf=>qL d (f.add 0) 4 λg=>NN c λj=>qZ d j 5 λy=>NN y λk=>qZ d k 0 λz=>qQ Iq #[Pv z] d λA a=>zH a (f.add 0) 4 (Iv g) λR=>cond (decide (g≥A)) (NN c λa22=>St ((a22.add 7).add 0) (Iv 1) (λt=>K aN4 t) a) (NN c λa24=>qL a (a24.add 0) 2 λh=>NN c λa26=>qZ a a26 5 λB=>NN B λa28=>qZ a a28 0 λC=>NN c λl=>qL a (l.add 0) 4 λD=>qQ Ir #[Pv C,Iv D] a λE e=>zH e (a24.add 0) 2 (Iv h) λS=>cond (decide (h>E)) (NN c λa36=>St ((a36.add 7).add 0) (Iv 1) (λu=>K aN4 u) e) (M e)))) r) λO=>Dr (λb=>NN c λm=>qZ b m 6 λF=>NN c λa41=>qL b (a41.add 0) 3 λG=>NN c λn=>qL b (n.add 0) 3 λH=>NN c λo=>qL b (o.add 0) 2 λI=>NN c λp=>qL b (p.add 0) 4 λJ=>qQ xB #[Pv F,.agg #[Iv G,Iv (i64.wrap (H+I)),Iv 2,Iv J,Iv 0,.bool true]] b λL v=>NN c λq=>St ((q.add 7).add 0) (Iv L) (λx=>K aN4 x) v) O)
def Nr(c:ch):=
 qF xA #[Pv c] w λn g=>cond n (Dr (λa=>NN c λa5=>qZ a a5 6 λo=>NN c λm=>qL a (m.add 0) 3 λp=>NN c λa9=>qL a (a9.add 0) 3 λj=>NN c λe=>qL a (e.add 0) 2 λk=>qJ BC #[Pv o,Iv p,Iv (i64.wrap (j+k))] a λd b=>NN c λf=>qZ b f 5 λl=>qE BD #[Pv l,Sv d] b λh=>NN c λa20=>St ((a20.add 7).add 1) (Iv ((d.n:Nat):Int)) (λi=>K aN4 i) h) g) (K aN4 g)
def Ns(c:ch):=
 zk BE #[Pv c] w λj V W X Y Z aa y U=>zg U λd r=>qU [Iv V,Iv W,Iv X,Iv Y,Iv Z,.bool aa] d r λe=>dX y (NN c λk=>St ((k.add 7).add 0) (Iv 14) (λs=>K aN4 s) e) (qg (λf=>NN c λl=>qZ e l 6 λz=>zy sn #[Pv z,Iv j] e λA B C D E t=>zu t λq u=>qU [Iv A,Iv B,.bool C,.bool D] q u λa=>dX E (qL a d 2 λF=>cond (F==1) (K aN4 a) (f a)) (f a)) λg=>zR g d λG H I J L M=>qp BF #[Pv c,Iv j,.agg #[Iv G,Iv H,Iv I,Iv J,Iv L,.bool M]] g λN O h=>dX O (K aN4 h) (Dr (λb=>NN c λm=>qZ b m 5 λP=>NN P λn=>qZ b n 0 λQ=>NN c λo=>qL b (o.add 0) 2 λR=>qo It #[Pv Q,Iv N,Iv (bU .i64 R 15)] b λS ab i=>NN c λa53=>qZ i a53 6 λT=>qF BG #[Pv T,Iv j] i λad v=>NN c λp=>St ((p.add 7).add 1) (Iv (i64.wrap S)) (λx=>K aN4 x) v) h))
def Nt(c:ch):=
 Al (.cells #[Pv c] 91) (λa w2=>qb w2 a λan=>zk BE #[Pv an] w2 λao ap aq ar I J L M am=>qC #[Iv 0] am λi A=>zg A λj B=>St i (Iv ao) (λC=>qU [Iv ap,Iv aq,Iv ar,Iv I,Iv J,.bool L] j C λe=>qg (λh=>qh (λm=>qb e a λO=>NN O λa28=>qL e (a28.add 0) 3 λQ=>ed Q 0 (m true e) (qb e a λR=>NN R λr=>qL e (r.add 0) 3 λS=>m (decide (S>255)) e)) λN b=>cond N (qb b a λT=>NN T λs=>St ((s.add 7).add 0) (Iv 1) (λD=>h D) b) (dX M (qb b a λU=>NN U λt=>St ((t.add 7).add 0) (Iv 14) (λE=>h E) b) (qy b j 5 λV=>dX V (qb b a λW=>NN W λa41=>St ((a41.add 7).add 0) (Iv 15) (λF=>h F) b) (h b)))) λf=>qb f a λX=>NN X λa44=>qL f (a44.add 7) 0 λY=>cond (Y !=0) (K aN4 f) (∃l:bg1,(qL f j 2 λZ=>cond (Z==2) (l (.func (.func Ix) #[] #[Pv (some a),Pv (some i),Pv (some j)]) f) (l (.func (.func Iu) #[] #[Pv (some a),Pv (some i)]) f))/\(∀al:Nat->bE,∀g:bE,∀n:bH,l g n->eY P g #[] n λz o=>∃p:Int,∃q:Bool,z=.returned (.tuple #[Iv p,.bool q])/\cond q (Dr (λd=>qb d a λaa=>NN aa λa57=>qZ d a57 5 λab=>NN ab λu=>qZ d u 0 λad=>qb d a λae=>NN ae λv=>qL d (v.add 0) 2 λaf=>qb d a λag=>NN ag λx=>qL d (x.add 0) 3 λah=>qQ Iy #[Pv ad,Iv p,Iv (bU .i64 af 15),.int .u8 (IntKind.u8.wrap ah)] d λau G=>Dr (λk=>qb k a λai=>NN ai λy=>qZ k y 6 λaj=>qD k i λak=>qF BG #[Pv aj,Iv ak] k λav H=>K aN4 H) G) o) (K aN4 o)))) B) w
def Nu(c:ch):=
 NN c λB=>qZ w B 5 λF=>NN F λa3=>qK w a3 1 λG=>cond (decide (((G.n:Nat):Int)≥64)) (NN c λa5=>St ((a5.add 7).add 0) (Iv 3) (λD=>K aN4 D) w) (NN c λC=>qZ w C 6 λH=>qR Iz #[Pv H] w λe E=>qJ H7 #[Pv e] E λf l=>qO 0 l λg d b=>fB d f.n (qW f d 1 λa20=>qD b a20 λp=>NN c λa22=>qZ b a22 5 λq=>NN q λa24=>qZ b a24 0 λr=>qQ uH #[Pv r,Iv p,Iv 1] b λI m=>(g (i64.wrap (d+1)) m)) (Dr (λa=>NN c λh=>qZ a h 5 λs=>NN c λa32=>qZ a a32 5 λt=>NN t λi=>qK a i 1 λu=>NN c λa36=>qL a (a36.add 0) 1 λv=>qW u v 2 λj=>qL a j 0 λx=>zx BA #[Pv s,Iv x,Pv e] a λy z A n=>NN c λk=>qU [Iv y,Iv z,Sv A] (k.add 7) n λo=>K aN4 o) b))
def Nv(t:ch):=
 qJ xy #[(.func (.func nX) #[Pv t] #[])] w λb a=>K (Iv ((b.n:Nat):Int)) a
def Dl(t:ch)(a b:Int):=
 qC #[Iv a] w λg w2=>qC #[Iv b] w2 λh i=>Al (.cells #[aN8] 22) (λc j=>iy P 23 (.func (.func nX) #[Pv t] #[]) #[11] (j6 f68.body) (j7 f68.body) (.exit 0) ((((((((jg [Pv t,Iv a,Iv b] 0 .nil).put (some 4) (Pv (some g))).put (some 5) (Pv (some h))).put (some 6) (aN8)).put (some 7) (Pv (some c))).put (some 9) (Pv t)).put (some 10) (.func (.func nX) #[Pv t] #[]))) j (λb7 d=>qc d c λk=>d.heap[b7]?=some (.deferred (some []))/\K (Sv k) (d.putObj b7 (.deferred none))) (λb8 e=>qc e c λf=>e.heap[b8]?=some (.deferred (some []))/\K (Sv f) (e.putObj b8 (.deferred none)))) i
def Nw(s:ch)(bK:Int):=
 zu w λa w2=>NN s λa3=>qZ w2 a3 1 λA=>zh so #[Pv A,Iv bK] w2 λB C o=>dX C (qU [Iv 0,Iv 0,.bool false,.bool false] a o λp=>zn p a λe f g h=>K (.tuple #[.agg #[Iv e,Iv f,.bool g,.bool h],.bool false]) p) (zt BH #[.int .u64 B] o λq r t u D m=>zu m λb n=>qU [Iv q,Iv r,.bool t,.bool u] b n λc=>zn c b λv x y z=>qU [Iv v,Iv x,.bool y,.bool z] a c λd=>zn d a λi j k l=>K (.tuple #[.agg #[Iv i,Iv j,.bool k,.bool l],.bool true]) d)
def Nx(v:ch)(group:Int)(s:ch):=
 zW w λd w2=>NN v λa3=>qK w2 a3 1 λm=>Al (.cells #[Iv group,Pv s] 95) (λk l=>∃j:Sl,∃h:bH,Sem.run P (Builtin.append_ #[69,69] 69 #[Sv m,.slice (some k) 1 1]) l=.ok (Sv j) h/\NN v λa9=>St (a9.add 1) (Sv j) (λa=>NN v λc=>qK a c 1 λi=>qU [Iv 0,Iv (i64.wrap (((i.n:Nat):Int)-1)),aN8] d a λb=>zI b d λe f g=>K (.agg #[Iv e,Iv f,Sv g]) b) h) w2
def Ny:=
 qR xD #[] w λd b=>Al (.cells #[aN8,Pv d] 112) (λa c=>K (Pv (some a)) c) b
def Nz(v:ch)(pid:Int):=
 NN v λf=>qK w f 1 λh=>qW h pid 2 λa3=>qZ w a3 1 λi=>qJ BC #[Pv i,Iv 0,Iv 65536] w λj g=>qE BD #[Pv v,Sv j] g λd=>NN v λa=>qK d a 1 λe=>qW e pid 2 λb=>St (b.add 1) (Pv none) (λc=>K aN4 c) d
def NA(c:ch):=
 NN c λg=>qL w (g.add 0) 2 λk=>qF BK #[Iv k] w λl b=>dX l (NN c λh=>St ((h.add 7).add 0) (Iv 1) (λj=>K aN2 j) b) (NN c λi=>qL b (i.add 0) 3 λm=>qF BK #[Iv m] b λf a=>dX f (NN c λd=>St ((d.add 7).add 0) (Iv 1) (λe=>K aN2 e) a) (K aN3 a))
def NB(s:ch)(i j k l m:Int)(n:Bool):=
 zY #[Iv i,Iv j,Iv k,Iv l,Iv m,.bool n] w λo w2=>Dr (λc=>NN s λa4=>qK c a4 0 λp=>zR c o λq r t u f g=>zF IL #[Sv p,.agg #[Iv q,Iv r,Iv t,Iv u,Iv f,.bool g]] c λh a b=>cond (a==0) (NN s λd=>St (d.add 0) (Sv h) (λe=>K (Iv a) e) b) (K (Iv a) b)) w2
def NC(s:ch)(a c:Int):=
 qJ Bo #[Pv s,Iv a,Iv c] w λt h=>NN s λa4=>qZ h a4 1 λu=>qJ xx #[Pv u,Iv a,Iv c] h λp r=>qO 0 r λq d b=>fB d p.n (qW p d 1 λe=>qD b e λl=>NN s λf=>qZ b f 1 λm=>qF BM #[Pv m,Iv l] b λv i=>(q (i64.wrap (d+1)) i)) (NN s λg=>qK b g 0 λn=>qJ IN #[Sv n,Iv a,Iv c] b λo j=>NN s λa26=>St (a26.add 0) (Sv o) (λk=>K (Sv t) k) j)
def ND(v:ch)(ids:Sl):=
 qO 0 w λd b a=>fB b ids.n (qW ids b 1 λe=>qD a e λg=>NN v λf=>qZ a f 0 λh=>qQ uH #[Pv h,Iv g,Iv (-1)] a λi c=>(d (i64.wrap (b+1)) c)) (K aN4 a)
def NF(c:ch):=
 zg w λd w2=>NN c λa3=>qL w2 (a3.add 0) 2 λn=>0<=(4:Int)/\NN c λa5=>qZ w2 a5 6 λL=>zm BN #[Pv L,Iv (n.fdiv (2^(min (4:Int).toNat 64)))] w2 λM D E F G H I J=>zg J λe B=>qU [Iv M,Iv D,Iv E,Iv F,Iv G,.bool H] e B λC=>Dr (λa=>zR a e λg h i j k l=>cond I (NN c λa26=>qL a (a26.add 0) 2 λm=>qU [Iv g,Iv h,Iv i,Iv j,Iv k,.bool l] d a λb=>zH b (a26.add 0) 2 (Iv m) λN=>zR b d λo p q r s t=>K (.tuple #[Iv (n.fdiv (2^(min (4:Int).toNat 64))),.agg #[Iv o,Iv p,Iv q,Iv r,Iv s,.bool t],.bool (decide (m≥0))]) b) (qU [Iv g,Iv h,Iv i,Iv j,Iv k,.bool l] d a λf=>zR f d λu v x y z A=>K (.tuple #[Iv (n.fdiv (2^(min (4:Int).toNat 64))),.agg #[Iv u,Iv v,Iv x,Iv y,Iv z,.bool A],.bool false]) f)) C
def NG(c:ch)(bK U V W X Y:Int)(Z:Bool):=
 Al (.cells #[Pv c] 91) (λd w2=>qC #[Iv bK] w2 λl aa=>zY #[Iv U,Iv V,Iv W,Iv X,Iv Y,.bool Z] aa λt ab=>∃s:Addr->Bool->bg0,(Dr (λa=>qb a d λm=>NN m λj=>qZ a j 6 λg=>qD a l λh=>(zy sn #[Pv g,Iv h] a λB C D E F u=>zu u λq e=>zG e l (Iv h) λae=>qG e j 6 (Pv g) λaf=>zo e d (Pv m) λag=>qU [Iv B,Iv C,.bool D,.bool E] q e λv=>s q F v)/\(zu a λr f=>zG f l (Iv h) λah=>qG f j 6 (Pv g) λai=>zo f d (Pv m) λaj=>zy sn #[Pv g,Iv h] f λG H I J L x=>qU [Iv G,Iv H,.bool I,.bool J] r x λy=>s r L y)) ab)/\(∀ad:Nat->bE,∀p:Addr,∀k:Bool,∀i:bH,s p k i->cond k (qb i d λM=>qL i p 1 λN=>qp BO #[Pv M,Iv N] i λO P z=>K (.tuple #[Iv O,.bool P]) z) (qb i d λQ=>qp xF #[Pv Q,(.func (.func BP) #[] #[Pv (some d),Pv (some t),Pv (some l)])] i λn o b=>cond o (qb b d λR=>qD b l λS=>qy b t 5 λT=>qE BQ #[Pv R,Iv S,Iv n,Iv 2,.bool T] b λA=>K (.tuple #[Iv n,.bool o]) A) (K (.tuple #[Iv n,.bool o]) b)))) w
def NH(s:ch)(bK:Int):=
 NN s λi=>qZ w i 1 λj=>zh so #[Pv j,Iv bK] w λk b e=>cond b (Dr (λf=>NN s λc=>qZ f c 1 λh=>zU IT #[.int .u64 k] f λg a=>qG a c 1 (Pv h) λl=>qQ uK #[Pv h,Iv bK,.int .u64 g] a λm d=>K (.bool b) d) e) (K (.bool b) e)
def NI(b a:Addr):=
 qb w b λd=>qD w a λe=>qp Iw #[Pv d,Iv e] w λf g c=>K (.tuple #[Iv f,.bool g]) c
def NJ(c:ch)(bK:Int):=
 Al (.cells #[Pv c] 91) (λe w2=>∃N:Addr->Addr->bg0,(qb w2 e λaN=>NN aN λa9=>qZ w2 a9 6 λaa=>zy sn #[Pv aa,Iv bK] w2 λab ad ae af ag O=>zu O λy P=>Al (.cells #[.bool false] 4) (λz Q=>qU [Iv ab,Iv ad,.bool ae,.bool af] y Q λR=>St z (.bool ag) (λS=>N y z S) R) P)/\(∀aO:Nat->bE,∀j:Addr,∀d:Addr,∀U:bH,N j d U->∃n:Addr->bg0,(Dr (λb=>qb b e λr=>NN r λo=>qZ b o 5 λs=>NN s λa32=>qZ b a32 0 λk=>qL b j 1 λl=>(qX Bl #[Pv k,Iv l] b λah ai aj ak al am an ao ap aP T=>qV T λB g=>zH g j 1 (Iv l) λaQ=>qG g a32 0 (Pv k) λaR=>qG g o 5 (Pv s) λaS=>zo g e (Pv r) λaT=>qU [Iv ah,Iv ai,Iv aj,Iv ak,Iv al,Iv am,Iv an,.bool ao,.bool ap] B g λV=>n B V)/\(qV b λC h=>zH h j 1 (Iv l) λaU=>qG h a32 0 (Pv k) λaV=>qG h o 5 (Pv s) λaW=>zo h e (Pv r) λaX=>qX Bl #[Pv k,Iv l] h λaq ar au av aw ax ay az aA aY W=>qU [Iv aq,Iv ar,Iv au,Iv av,Iv aw,Iv ax,Iv ay,.bool az,.bool aA] C W λX=>n C X)) U)/\(∀aL:Nat->bE,∀A:Addr,∀f:bH,n A f->qh (λu=>qm f d λaC=>cond aC (qL f A 5 λaD=>u (decide (aD<=1)) f) (u false f)) λaB i=>cond aB (qb i e λaE=>qL i j 1 λaF=>qp BO #[Pv aE,Iv aF] i λaG aH Y=>K (.tuple #[Iv aG,.bool aH]) Y) (qb i e λaI=>qp xF #[Pv aI,(.func (.func BS) #[] #[Pv (some d),Pv (some e),Pv (some j)])] i λt m p=>qg (λv=>cond m (qb p e λaJ=>qE BQ #[Pv aJ,Iv bK,Iv t,Iv 1,.bool true] p λZ=>v Z) (v p)) λq=>qh (λx=>cond m (qm q d λH=>x H q) (x false q)) λaK D=>cond aK (Dr (λa=>qb a e λI=>NN I λE=>qZ a E 5 λJ=>NN J λF=>qZ a F 0 λL=>qL a j 1 λM=>qQ uH #[Pv L,Iv M,Iv (-1)] a λaM G=>K (.tuple #[Iv t,.bool m]) G) D) (K (.tuple #[Iv t,.bool m]) D))))) w
variable{K w}
def Zf(cx cT bY)(h:M7 K w cx cT bY):=bM {} #[Iv cx,Iv cT,Sv bY] K w func17 h
def Zg(v)(h:M8 K w v):=bM {} #[Pv v] K w func18 h
def Zh(v a b c e f)(h:M9 K w v a b c e f):=bM {(z8 [14,29,33] [(1,[[1,2,0,3,4]],[0]),(4,[[1,2,4,5,6,0,3,7,8,9]],[0,7])]:dO)with dyn:=λd=>[18,42].contains d} #[Pv v,.agg #[Iv a,Iv b,Iv c,Iv e,Iv f]] K w func21 h
def Zi(v)(h:Na K w v):=bM (z8 [11,13,20,32] [] [(3,[(3,.slice),(12,jZ)])] [(8,[])]) #[Pv v] K w func23 h
def Zj(v pid)(h:Nb K w v pid):=bM (z8 [6,13,14] [] [] [(3,[])]) #[Pv v,Iv pid] K w func24 h
def Zk(s)(h:Nc K w s):=bM {} #[Pv s] K w func27 h
def Zl(cx cT bY l)(h:Nd K w cx cT bY l):=bM (z8 [18,20,29] [] [(4,[(10,.slice),(19,jZ)])]) #[Iv cx,Iv cT,Sv bY,Sv l] K w func29 h
def Zm(h:Zd K w):=bM {} #[] K w func36 h
def Zn(h:Ze K w):=bM {} #[] K w func37 h
def Zo(s)(h:Nf K w s):=bM {} #[Pv s] K w func38 h
def Zp(s a b)(h:Ng K w s a b):=bM (z8 [19,21,35] [] [(3,[(7,.slice),(20,jZ)])]) #[Pv s,Iv a,Iv b] K w func40 h
def Zq(v a b c d e)(h:Nh K w v a b c d e):=bM (z8 [19] [(1,[jQ 12],[6])]) #[Pv v,.agg #[Iv a,Iv b,Iv c,Iv d,Iv e]] K w func51 h
def Zr(v a b c d e)(h:Ni K w v a b c d e):=bM (z8 [10,25,27,34,41,44] [(1,[[0,1,2,3,4,5,6,7,9,10,8,11,12,13]],[8,11]),(8,[jQ 9],[6,8])] [(3,[(26,jZ)])] [(2,[(5,.bool)])]) #[Pv v,.agg #[Iv a,Iv b,Iv c,Iv d,Iv e]] K w func52 h
def Zs(v a b c d e)(h:Nj K w v a b c d e):=bM (z8 [] [(1,[jQ 13],[10,12])]) #[Pv v,.agg #[Iv a,Iv b,Iv c,Iv d,Iv e]] K w func53 h
def Zt(v a b c d e)(h:Nk K w v a b c d e):=bM (z8 [21,22] [(1,[[0,1,2,3,5,6,4,7,8,9]],[4,7]),(5,[jQ 6],[3,4,5])]) #[Pv v,.agg #[Iv a,Iv b,Iv c,Iv d,Iv e]] K w func54 h
def Zu(v a b c d e)(h:Nl K w v a b c d e):=bM (z8 [] [(1,[jQ 9],[6,8])]) #[Pv v,.agg #[Iv a,Iv b,Iv c,Iv d,Iv e]] K w func55 h
def Zv(v a b c d e)(h:Nm K w v a b c d e):=bM (z8 [] [(1,[jQ 11],[8,10])]) #[Pv v,.agg #[Iv a,Iv b,Iv c,Iv d,Iv e]] K w func56 h
def Zw(c)(h:Nn K w c):=bM (z8 [] [(0,[[0,1,2,3,4,5,6,8,9,10,11,12,7,13,14]],[7,13]),(2,[jQ 20],[19])]) #[Pv c] K w func57 h
def Zx(c)(h:No K w c):=bM (z8 [] [(0,[jQ 10],[9])]) #[Pv c] K w func58 h
def Zy(c)(h:Np K w c):=bM (z8 [24] [(1,[jQ 27],[22,26])]) #[Pv c] K w func59 h
def Zz(c)(h:Nq K w c):=bM (z8 [10,25,46,72] [(1,[jQ 43],[19,40]),(3,[jQ 32],[27,31])] [] [(3,[])]) #[Pv c] K w func60 h
def ZA(c)(h:Nr K w c):=bM (z8 [24,34] [(1,[jQ 22],[20])]) #[Pv c] K w func61 h
def ZB(c)(h:Ns K w c):=bM (z8 [36,61,73] [(7,[jQ 20],[14])] [] [(5,[])]) #[Pv c] K w func62 h
def ZC(c)(h:Nt K w c):=bM {(z8 [20,27,53,57,78,84] [(14,[jQ 21],[20]),(15,[jQ 6],[5])] [] [(3,[(14,.bool)]),(8,[]),(12,[(5,.raw)])]:dO)with dyn:=λd=>[61].contains d} #[Pv c] K w func63 h
def ZD(c)(h:Nu K w c):=bM (z8 [12,13,25,27,39] [(8,[jQ 25],[21,24])] [(4,[(26,jZ)])]) #[Pv c] K w func64 h
def ZE(t)(h:Nv K w t):=bM (z8 [6]) #[Pv t] K w func65 h
def sR:dO:={quiet:=λd=>[14,17].contains d,brk:=some 0}
def Dm:Nat->Bool:=λd=>[].contains d
def ZF(t:ch)(a b:Int)(K:bg1)(w:bH):m1 P fF gL cz sR Dm f68 #[(.pointer t),(.int .i64 a),(.int .i64 b)] K w=Dl K w t a b:=by kernel_rfl
def ZG:m2 P sR f68 3=true:=by kernel_rfl
def ZH(t:ch)(a b:Int){K:bg1}{w:bH}(h:Dl K w t a b):Calls P xx #[(Pv t),(Iv a),(Iv b)] w (cA K):=nU mixed func68 ZG (by rw[ZF];exact h)
def NK(m n g:Addr)(b:Int)(c:Nat)(w:bH)(R:Ending->bg0):Prop:=
 lf c (λa=>qD a n λj=>cond (decide (b≥j)) (e2 c (some (.exit 0)) R a) (qD a m λk=>cond (decide (b≥k)) (qc a g λl=>qC #[Iv b] a λf h=>∃e:Sl,∃d:bH,Sem.run P (Builtin.append_ #[22,22] 22 #[Sv l,.slice (some f) 1 1]) h=.ok (Sv e) d/\St g (Sv e) (λi=>e2 c none R i) d) (e2 c none R a))) w
def ZI(t:ch)(a g:Int)(d e f:Addr)(b:Int)(c:Nat)(w:bH)(R:Ending->bg0):mo P fF gL cz sR Dm 23 c (j6 f68.body) (j7 f68.body) (lj [(11,.int .i64 b)] (((((((jg [(.pointer t),(.int .i64 a),(.int .i64 g)] 0 .nil).put (some 4) (.pointer (some d))).put (some 5) (.pointer (some e))).put (some 6) (aN8)).put (some 7) (.pointer (some f))).put (some 9) (.pointer t)).put (some 10) (.func (.func nX) #[(.pointer t)] #[]))) w R=NK d e f b c w R:=by kernel_rfl
def ZJ:gK P 23 sR (j6 f68.body)=true/\gK P 23 sR (j7 f68.body)=true:=⟨by kernel_rfl,by kernel_rfl⟩
def ZK(s bK)(h:Nw K w s bK):=bM {} #[Pv s,Iv bK] K w func69 h
def ZL(v group s)(h:Nx K w v group s):=bM (z8 [23,24]) #[Pv v,Iv group,Pv s] K w func82 h
def ZM(h:Ny K w):=bM {} #[] K w func83 h
def ZN(v pid)(h:Nz K w v pid):=bM {} #[Pv v,Iv pid] K w func86 h
def ZO(c)(h:NA K w c):=bM {} #[Pv c] K w func87 h
def ZP(s a b c d e f)(h:NB K w s a b c d e f):=bM (z8 [17] [(1,[jQ 11],[5])]) #[Pv s,.agg #[Iv a,Iv b,Iv c,Iv d,Iv e,.bool f]] K w func88 h
def ZQ(s a b)(h:NC K w s a b):=bM (z8 [21,23,32] [] [(3,[(22,jZ)])]) #[Pv s,Iv a,Iv b] K w func91 h
def ZR(v ids)(h:ND K w v ids):=bM (z8 [7,9,18] [] [(1,[(8,jZ)])]) #[Pv v,Sv ids] K w func92 h
def ZS(c)(h:NF K w c):=bM (z8 [13,32] [(3,[jQ 14],[12])]) #[Pv c] K w func93 h
def ZT(c bK a b d e f g)(h:NG K w c bK a b d e f g):=bM (z8 [] [(1,[jQ 12,[0,1,2,3,4,9,5,6,7,8,10,11]],[5,9,10])] [] [(2,[(8,.addr),(9,.bool)])]) #[Pv c,Iv bK,.agg #[Iv a,Iv b,Iv d,Iv e,Iv f,.bool g]] K w func94 h
def ZU(s bK)(h:NH K w s bK):=bM (z8 [] [(3,[jQ 8],[6,7])]) #[Pv s,Iv bK] K w func96 h
def ZV(b a)(h:NI K w b a):=bM {} #[Pv (some b),Pv (some a)] K w func97 h
def ZW(c bK)(h:NJ K w c bK):=bM (z8 [38] [(2,[jQ 16,[0,1,2,3,4,5,6,7,8,13,9,10,11,12,14,15]],[9,13,14]),(9,[jQ 10],[9])] [] [(2,[(6,.addr),(7,.addr)]),(3,[(8,.addr)]),(4,[(39,.bool)]),(8,[]),(9,[(60,.bool)])]) #[Pv c,Iv bK] K w func98 h
end Go.Mp
namespace Go.Mp
open Go Go.Vc Go.Proofs
variable{K:bg1}{w:bH}
variable(K w)
def NL(c b a:Addr):=
 qb w c λg=>qD w b λh=>zR w a λi j k l m n=>qp BF #[Pv g,Iv h,.agg #[Iv i,Iv j,Iv k,Iv l,Iv m,.bool n]] w λd e f=>K (.tuple #[Iv d,.bool e]) f
def NM(s:ch):=
 Dr (λa=>NN s λh=>qK a h 0 λi=>NN s λa4=>qZ a a4 1 λg=>qJ IX #[Sv i] a λj e=>qG e a4 1 (Pv g) λk=>qR BU #[Pv g] e λf c=>Al (.cells #[Sv j,Pv f] 112) (λb d=>K (Pv (some b)) d) c) w
def Dn(t:ch)(yield:bE):=
 NN t λa=>qF xH #[Pv (some (a.add 0)),Iv 0,Iv 0,yield] w λb w2=>K aN4 w2
def NO(t:ch)(bK:Int):=
 qF BY #[Iv bK] w λp j=>dX p (K (.tuple #[.int .u64 0,.bool false]) j) (NN t λa4=>zb (some (a4.add 0)) 0 j λo n9 c m=>ed c 3 (Dr (λk=>NN n9 λh=>qQ sw #[Iv bK,Iv c] k λn a=>cM (some (h.add 0)) 16 n 1 λi=>qb a i λe=>cond e.isNone (K (.tuple #[.int .u64 0,.bool false]) a) ((o e (i64.wrap (c+1)) a))) m) (qQ sw #[Iv bK,Iv 3] m λd l=>Dr (λb=>NN n9 λa22=>cM (some (a22.add 16)) 16 d 1 λa23=>∃f:Int,b.cell? a23=some (.int .u64 f)/\NN n9 λa25=>∃g:Int,b.cell? (a25.add 32)=some (.int .u16 g)/\0<=(u64.wrap d)/\K (.tuple #[.int .u64 f,.bool ((bU .u16 (g.fdiv (2^(min (u64.wrap d).toNat 16))) 1) !=0)]) b) l))
def NP(x:Int):=
 zu w λa w2=>qJ B0 #[] w2 λP O=>zF BZ #[Sv P,.int .u64 x] O λM N B=>cond (N !=0) (qU [Iv 0,Iv 0,.bool false,.bool false] a B λh=>zn h a λn o p q=>K (.tuple #[.agg #[Iv n,Iv o,.bool p,.bool q],Iv N]) h) (Dr (λc=>qW M 0 1 λf=>qD c f λl=>qW M 1 1 λg=>qD c g λm=>zu c λb d=>zG d g (Iv m) λQ=>zG d f (Iv l) λR=>qU [Iv l,Iv m,.bool ((bU .u64 x 67108864) !=0),.bool ((bU .u64 x 134217728) !=0)] b d λi=>zn i b λC D E F=>qF B1 #[.agg #[Iv C,Iv D,.bool E,.bool F]] i λG e=>dX G (qU [Iv 0,Iv 0,.bool false,.bool false] a e λj=>zn j a λr s t u=>K (.tuple #[.agg #[Iv r,Iv s,.bool t,.bool u],Iv 1]) j) (zn e b λH I J L=>qU [Iv H,Iv I,.bool J,.bool L] a e λk=>zn k a λv y z A=>K (.tuple #[.agg #[Iv v,Iv y,.bool z,.bool A],Iv 0]) k)) B)
def ZX:=
 Al (.cells #[Pv none,Pv none,Pv none,Pv none,Pv none,Pv none,Pv none,Pv none,Pv none,Pv none,Pv none,Pv none,Pv none,Pv none,Pv none,Pv none,.int .u64 0,.int .u64 0,.int .u64 0,.int .u64 0,.int .u64 0,.int .u64 0,.int .u64 0,.int .u64 0,.int .u64 0,.int .u64 0,.int .u64 0,.int .u64 0,.int .u64 0,.int .u64 0,.int .u64 0,.int .u64 0,.int .u16 0] 227) (λa w2=>K (Pv (some a)) w2) w
def ZY(n:Int):=
 cond (decide ((0:Int)<=n)) (K (.bool (decide (n<=65536))) w) (K aN2 w)
def NQ(l:Sl)(I J L M N:Int)(O:Bool):=
 zY #[Iv I,Iv J,Iv L,Iv M,Iv N,.bool O] w λd w2=>qg (λQ=>qF xK #[Sv l] w2 λS o=>dX S (K (.tuple #[aN8,Iv 1]) o) (zR o d λT t u v x y=>qF Cf #[.agg #[Iv T,Iv t,Iv u,Iv v,Iv x,.bool y]] o λz c=>dX z (K (.tuple #[aN8,Iv 1]) c) (cond (decide (((l.n:Nat):Int)≥64)) (K (.tuple #[aN8,Iv 1]) c) (Q c)))) λR=>qQ Cg #[Sv l,(.func (.func I8) #[] #[Pv (some d)])] R λk g=>q9 (λe=>ed k 0 (e ((l.n:Nat):Int) g) (e k g)) λa q=>qg (λf=>Dr (λb=>fB a l.n (qW l a 6 λa29=>qL b a29 0 λA=>qL b d 1 λB=>ed A B (K (.tuple #[aN8,Iv 4]) b) (f b)) (f b)) q) λr=>Dr (λh=>((0:Int)<=a/\a<=((l.c:Nat):Int))/\((0:Int)<=a/\a<=((a.toNat:Nat):Int))/\zR h d λC D E F G H=>((0:Int)<=a/\a<=((l.n:Nat):Int))/\zY #[Iv C,Iv D,Iv E,Iv F,Iv G,.bool H] h λp s=>∃m:Sl,∃i:bH,Sem.run P (Builtin.append_ #[109,109] 109 #[.slice (gj l.p 0 a.toNat 6) (a.toNat-0) (a.toNat-0),.slice (some p) 1 1]) s=.ok (Sv m) i/\∃n:Sl,∃j:bH,Sem.run P (Builtin.append_ #[109,109] 109 #[Sv m,.slice (gj l.p a.toNat l.c 6) (l.n-a.toNat) (l.c-a.toNat)]) i=.ok (Sv n) j/\K (.tuple #[Sv n,Iv 0]) j) r
def NR(t:ch)(bK:Int):=
 zh so #[Pv t,Iv bK] w λd c a=>dX c (K aN2 a) (NN t λa5=>qE Ch #[Pv (some (a5.add 0)),Iv bK,Iv 0] a λb=>K aN3 b)
def NS(l:Sl)(c h:Int):=
 qF xK #[Sv l] w λX k=>dX X (K (aN8) k) (Al (.cells #[aN8] 109) (λf W=>qO 0 W λi d g=>fB d l.n (qW l d 6 λj=>zR g j λp q r s t u=>zg g λa m=>qU [Iv p,Iv q,Iv r,Iv s,Iv t,.bool u] a m λb=>cond (decide (c≥h)) (zR b a λv x y z A B=>zZ b a λC D=>qE xL #[.agg #[Iv v,Iv x,Iv y,Iv z,Iv A,.bool B],Iv C,Iv D,Pv (some f)] b λn=>(i (i64.wrap (d+1)) n)) (zR b a λE F G H I J=>zZ b a λL M=>qE xL #[.agg #[Iv E,Iv F,Iv G,Iv H,Iv I,.bool J],Iv L,Iv (min1 M c),Pv (some f)] b λe=>zR e a λN O P Q R S=>zZ e a λT U=>qE xL #[.agg #[Iv N,Iv O,Iv P,Iv Q,Iv R,.bool S],Iv (ea T h),Iv U,Pv (some f)] e λo=>(i (i64.wrap (d+1)) o))) (qc g f λV=>K (Sv V) g)) k)
def NT(s:ch)(bK:Int):=
 zg w λb w2=>NN s λa3=>qK w2 a3 0 λn=>zm Ja #[Sv n,Iv bK] w2 λo p q i j k l m=>qU [Iv o,Iv p,Iv q,Iv i,Iv j,.bool k] b m λa=>zR a b λc d e f g h=>K (.tuple #[.agg #[Iv c,Iv d,Iv e,Iv f,Iv g,.bool h],.bool l]) a
def NU(c:ch)(id:Int):=
 Al (.cells #[Pv c] 91) (λa w2=>qC #[Iv id] w2 λd b=>qb b a λf=>qp xF #[Pv f,(.func (.func Ci) #[] #[Pv (some a),Pv (some d)])] b λg h e=>K (.tuple #[Iv g,.bool h]) e) w
def NV(group:Int)(d g c:Addr):=
 Dr (λb=>qb b d λn=>NN n λa3=>qZ b a3 5 λr=>NN r λa5=>qZ b a5 0 λs=>zR b g λt u v j k l=>qD b c λm=>Calls P IQ #[.agg #[Iv t,Iv u,Iv v,Iv j,Iv k,.bool l],Iv m] b λh a=>∃e:Int,∃f:Int,h=.returned (.agg #[Iv e,Iv f])/\qG a a5 0 (Pv s) λx=>qG a a3 5 (Pv r) λy=>zo a d (Pv n) λz=>zX IP #[Pv s,.agg #[Iv e,Iv f],Iv group] a λo p q i=>K (.tuple #[Iv o,Iv p,Iv q]) i) w
def NW(j k l m n:Int)(o:Bool)(bK:Int):=
 zY #[Iv j,Iv k,Iv l,Iv m,Iv n,.bool o] w λb w2=>Al (.cells #[Iv 0,Iv 0] 54) (λc a=>qL a b 2 λp=>cond (p==2) (qL a b 3 λq=>qL a b 4 λr=>qL a b 0 λs=>qU [Iv q,Iv (i64.wrap ((i64.wrap (r+bK))-s))] c a λi=>zZ i c λe f=>K (.agg #[Iv e,Iv f]) i) (qU [Iv (-1),Iv bK] c a λd=>zZ d c λg h=>K (.agg #[Iv g,Iv h]) d)) w2
def NX(c:ch)(bK id kind:Int)(write:Bool):=
 NN c λd=>qZ w d 5 λf=>NN f λa3=>qZ w a3 0 λg=>qQ uH #[Pv g,Iv id,Iv 1] w λj b=>NN c λe=>qZ b e 6 λh=>qQ Jb #[Pv h,Iv bK,.agg #[Iv kind,Iv id,.bool write,.bool false]] b λi a=>K aN4 a
def NY(t:ch)(bK x:Int):=
 qF BY #[Iv bK] w λD q=>dX D (K (Iv 1) q) (NN t λa4=>zb (some (a4.add 0)) 0 q λC n9 d z=>ed d 3 (qQ sw #[Iv bK,Iv d] z λa c=>qg (λe=>NN n9 λk=>cM (some (k.add 0)) 16 a 1 λl=>qb c l λA=>cond A.isNone (Al (.cells #[Pv none,Pv none,Pv none,Pv none,Pv none,Pv none,Pv none,Pv none,Pv none,Pv none,Pv none,Pv none,Pv none,Pv none,Pv none,Pv none,.int .u64 0,.int .u64 0,.int .u64 0,.int .u64 0,.int .u64 0,.int .u64 0,.int .u64 0,.int .u64 0,.int .u64 0,.int .u64 0,.int .u64 0,.int .u64 0,.int .u64 0,.int .u64 0,.int .u64 0,.int .u64 0,.int .u16 0] 225) (λp r=>NN n9 λa22=>cM (some (a22.add 0)) 16 a 1 λa23=>St a23 (Pv (some p)) (λs=>e s) r) c) (e c)) λf=>NN n9 λa25=>∃i:Int,f.cell? (a25.add 32)=some (.int .u16 i)/\0<=(u64.wrap a)/\NN n9 λa27=>St (a27.add 32) (.int .u16 (iU .u16 i (IntKind.u16.wrap (1*2^(min (u64.wrap a).toNat 16))))) (λg=>NN n9 λa29=>cM (some (a29.add 0)) 16 a 1 λm=>qb g m λB=>(C B (i64.wrap (d+1)) g)) f) (qQ sw #[Iv bK,Iv 3] z λb u=>Dr (λh=>NN n9 λa36=>∃j:Int,h.cell? (a36.add 32)=some (.int .u16 j)/\0<=(u64.wrap b)/\NN n9 λn=>cM (some (n.add 16)) 16 b 1 λo=>St o (.int .u64 x) (λv=>((.int .u64 (u64.wrap b)):bE)=(.int .u64 (u64.wrap b))/\NN n9 λa41=>St (a41.add 32) (.int .u16 (iU .u16 j (IntKind.u16.wrap (1*2^(min (u64.wrap b).toNat 16))))) (λy=>K (Iv 0) y) v) h) u))
def NZ(x:Int):=
 qF Jc #[.int .u64 x] w λb a=>cond b (K (.int .u64 (iU .u64 x 134217728)) a) (K (.int .u64 x) a)
def N0(group:Int)(e a b:Addr):=
 qm w e λr=>cond r (Dr (λw2=>qb w2 a λs=>NN s λa4=>qZ w2 a4 5 λt=>NN t λp=>qZ w2 p 0 λu=>qL w2 b 1 λv=>zX IU #[Pv u,Iv v,Iv group] w2 λg h i q=>K (.tuple #[Iv g,Iv h,Iv i]) q) w) (qb w a λj=>NN j λc=>qZ w c 5 λk=>NN k λd=>qZ w d 0 λl=>zX IV #[Pv l,Iv group] w λm n o f=>K (.tuple #[Iv m,Iv n,Iv o]) f)
def Dp(t:ch):=
 Al (.cells #[Pv t] 110) (λg w2=>qR xD #[] w2 λj k=>Al (.cells #[Pv none] 110) (λe l=>St e (Pv j) (λh=>qb h g λf=>iy P 22 (.func (.func nX) #[Pv f] #[]) #[10] (j6 f154.body) (j7 f154.body) .ret ((((((((jg [Pv t] 0 .nil).put (some 1) (Pv (some g))).put (some 2) (Pv none)).put (some 7) (Pv j)).put (some 3) (Pv (some e))).put (some 8) (Pv f)).put (some 9) (.func (.func nX) #[Pv f] #[]))) h (λb a=>qb a e λi=>a.heap[b]?=some (.deferred (some []))/\K (Pv i) (a.putObj b (.deferred none))) (λc d=>d.heap[c]?=some (.deferred (some []))/\K (Pv none) (d.putObj c (.deferred none)))) l) k) w
def x7(n:ch)(level b:Int)(yield:bE):=
 qO 0 w λg a c=>ed a 16 (0<=(4:Int)/\NN n λl=>∃k:Int,c.cell? (l.add 32)=some (.int .u16 k)/\0<=(u64.wrap a)/\cond ((bU .u16 (k.fdiv (2^(min (u64.wrap a).toNat 16))) 1)==0) ((([]:bA Nat)= []/\(g (i64.wrap (a+1)) c))) (ed level 3 (NN n λm=>cM (some (m.add 0)) 16 a 1 λa9=>qb c a9 λi=>qF xH #[Pv i,Iv (i64.wrap (level+1)),Iv (iU .i64 (i64.wrap (b*2^(min (4:Int).toNat 64))) a),yield] c λj d=>dX j (K aN2 d) ((([]:bA Nat)= []/\(g (i64.wrap (a+1)) d)))) (w6 P none yield #[Iv (iU .i64 (i64.wrap (b*2^(min (4:Int).toNat 64))) a)] c λh e=>∃f,h=.returned (.bool f)/\dX f (K aN2 e) ((([]:bA Nat)= []/\(g (i64.wrap (a+1)) e)))))) (K aN3 c)
def ZZ(bK:Int):=
 cond (decide ((0:Int)<=bK)) (K (.bool (decide (bK<65536))) w) (K aN2 w)
def N1(bK level:Int):=
 0<=(u64.wrap (i64.wrap (4*(i64.wrap (3-level)))))/\K (Iv (bU .i64 (bK.fdiv (2^(min (u64.wrap (i64.wrap (4*(i64.wrap (3-level))))).toNat 64))) 15)) w
def N2:=
 qC #[Iv 2,Iv 24,Iv 1,Iv 1] w λa w2=>K (.slice (some a) 4 4) w2
def N3(b c:Int)(d e:Bool):=
 Al (.cells #[Iv b,Iv c,.bool d,.bool e] 125) (λa w2=>qL w2 a 0 λj=>cond (j==0) (zn w2 a λk l m n=>∃f:Bool,kh P .eql 125 (.agg #[Iv k,Iv l,.bool m,.bool n]) (.agg #[Iv 0,Iv 0,.bool false,.bool false]) f/\cond f (K aN3 w2) (qL w2 a 0 λo=>cond (o==1) (K aN3 w2) (qL w2 a 0 λg=>K (.bool (g==2)) w2))) (qL w2 a 0 λh=>cond (h==1) (K aN3 w2) (qL w2 a 0 λi=>K (.bool (i==2)) w2))) w
def N4(l:Sl):=
 qI 0 0 w λv f e d=>fB e l.n (qW l e 6 λx=>zR d x λy z h i j k=>zg d λb g=>qU [Iv y,Iv z,Iv h,Iv i,Iv j,.bool k] b g λc=>zR c b λm n o p q r=>qF Cf #[.agg #[Iv m,Iv n,Iv o,Iv p,Iv q,.bool r]] c λs a=>dX s (K aN2 a) (qL a b 0 λt=>ed t f (K aN2 a) (qL a b 1 λu=>(v u (i64.wrap (e+1)) a)))) (K aN3 d)
def N5(l m n o p:Int)(q:Bool):=
 zY #[Iv l,Iv m,Iv n,Iv o,Iv p,.bool q] w λb w2=>qg (λr=>qL w2 b 0 λs=>ed s 0 (K aN2 w2) (qL w2 b 1 λt=>qL w2 b 0 λu=>cond (decide (t<=u)) (K aN2 w2) (qL w2 b 1 λv=>cond (decide (v>65536)) (K aN2 w2) (r w2)))) λa=>qL a b 2 λc=>cond (c==1) (qL a b 3 λd=>cond (d==0) (qL a b 4 λe=>K (.bool (e==0)) a) (K aN2 a)) (cond (c==2) (qL a b 3 λf=>cond (decide ((0:Int)<=f)) (qL a b 3 λg=>cond (decide (g<=1048576)) (qL a b 4 λh=>cond (decide ((0:Int)<=h)) (qL a b 4 λi=>qL a b 1 λj=>qL a b 0 λk=>K (.bool (decide (i<=(i64.wrap (2097152-(i64.wrap (j-k))))))) a) (K aN2 a)) (K aN2 a)) (K aN2 a)) (K aN2 a))
def N6(b c d e f:Int)(g:Bool)(a:Addr):=
 zY #[Iv b,Iv c,Iv d,Iv e,Iv f,.bool g] w λh w2=>qL w2 h 1 λi=>qL w2 a 0 λj=>K (.bool (decide (i>j))) w2
def Dq(n:ch)(bK level:Int):=
 qQ sw #[Iv bK,Iv level] w λb f=>qg (λg=>ed level 3 (NN n λr=>cM (some (r.add 0)) 16 b 1 λs=>qb f s λu=>qE Ch #[Pv u,Iv bK,Iv (i64.wrap (level+1))] f λa=>NN n λh=>cM (some (h.add 0)) 16 b 1 λi=>qb a i λq=>NN q λj=>∃d:Int,a.cell? (j.add 32)=some (.int .u16 d)/\cond (d !=0) (K aN4 a) (NN n λk=>cM (some (k.add 0)) 16 b 1 λl=>St l (Pv none) (λo=>g o) a)) (g f)) λt=>NN n λa20=>cM (some (a20.add 16)) 16 b 1 λm=>St m (.int .u64 0) (λc=>NN n λa23=>∃e:Int,c.cell? (a23.add 32)=some (.int .u16 e)/\0<=(u64.wrap b)/\NN n λa25=>St (a25.add 32) (.int .u16 (wu .u16 e (IntKind.u16.wrap (1*2^(min (u64.wrap b).toNat 16))))) (λp=>K aN4 p) c) t
def N7(u v x y z:Int)(A:Bool)(b c:Int)(a:Addr):=
 zY #[Iv u,Iv v,Iv x,Iv y,Iv z,.bool A] w λB w2=>ed b c (Dr (λj=>qc j a λk=>zR j B λC D E F G n=>zf I9 #[.agg #[Iv C,Iv D,Iv E,Iv F,Iv G,.bool n],Iv b,Iv c] j λo p q r s t d=>∃g:Sl,d.cell? a=some (Sv g)/\((Sv g):bE)=(Sv k)/\zY #[Iv o,Iv p,Iv q,Iv r,Iv s,.bool t] d λl e=>∃h:Sl,e.cell? a=some (Sv h)/\((Sv h):bE)=(Sv k)/\∃i:Sl,∃f:bH,Sem.run P (Builtin.append_ #[109,109] 109 #[Sv k,.slice (some l) 1 1]) e=.ok (Sv i) f/\St a (Sv i) (λm=>K aN4 m) f) w2) (K aN4 w2)
def N8(y z A B C:Int)(D:Bool)(b n:Int):=
 zY #[Iv y,Iv z,Iv A,Iv B,Iv C,.bool D] w λa w2=>zg w2 λg c=>qg (λf=>qL c a 2 λF=>cond (F==2) (qL c a 4 λG=>qL c a 0 λq=>St (a.add 4) (Iv (i64.wrap (G+(i64.wrap (b-q))))) (λo=>f o) c) (f c)) λE=>St (a.add 0) (Iv b) (λp=>St (a.add 1) (Iv n) (λd=>zR d a λr s t u v x=>qU [Iv r,Iv s,Iv t,Iv u,Iv v,.bool x] g d λe=>zR e g λh i j k l m=>K (.agg #[Iv h,Iv i,Iv j,Iv k,Iv l,.bool m]) e) p) E
def N9(l:Sl)(bK:Int):=
 qC #[Iv bK] w λH w2=>zg w2 λa J=>qQ Cg #[Sv l,(.func (.func Jp) #[] #[Pv (some H)])] J λG x=>ed G 0 (qU [Iv 0,Iv 0,Iv 0,Iv 0,Iv 0,.bool false] a x λy=>zR y a λI e f g h i=>K (.tuple #[.agg #[Iv I,Iv e,Iv f,Iv g,Iv h,.bool i],.bool false]) y) (qF xK #[Sv l] x λz b=>dX z (qU [Iv 0,Iv 0,Iv 0,Iv 0,Iv 0,.bool false] a b λc=>zR c a λj k m n o p=>K (.tuple #[.agg #[Iv j,Iv k,Iv m,Iv n,Iv o,.bool p],.bool false]) c) (qW l G 6 λa25=>zR b a25 λA B C D E F=>qU [Iv A,Iv B,Iv C,Iv D,Iv E,.bool F] a b λd=>zR d a λq r s t u v=>K (.tuple #[.agg #[Iv q,Iv r,Iv s,Iv t,Iv u,.bool v],.bool true]) d))
def Oa(group:Int)(c a:Addr):=
 Dr (λb=>qb b c λh=>NN h λa3=>qZ b a3 5 λi=>NN i λa5=>qZ b a5 0 λj=>qD b a λk=>qj Cj #[Pv j,Iv k,Iv group] b λe f d=>qD d a λg=>K (.tuple #[Iv g,Iv e,Iv f]) d) w
def Ob(c:ch)(target:Int):=
 Dr (λe=>NN c λI=>qZ e I 5 λJ=>NN J λa4=>qZ e a4 0 λL=>NN c λs=>qZ e s 5 λH=>NN c λn=>qZ e n 5 λo=>NN o λf=>qZ e f 0 λi=>qR uF #[Pv L] e λz d=>qG d f 0 (Pv i) λM=>qG d n 5 (Pv o) λN=>qG d s 5 (Pv H) λO=>qJ uD #[Pv H] d λA g=>qG g f 0 (Pv i) λQ=>qG g n 5 (Pv o) λR=>qJ Js #[Pv i] g λB t=>qJ Jr #[Pv z,Sv A,Iv target,Sv B] t λb u=>qO 0 u λp j a=>fB j b.n (qW b j 1 λq=>qD a q λC=>NN c λa36=>qZ a a36 5 λD=>qE BB #[Pv D,Iv C] a λv=>(p (i64.wrap (j+1)) v)) (NN c λa40=>qK a (a40.add 7) 2 λE=>∃m:Sl,∃k:bH,Sem.run P (Builtin.append_ #[22,22] 22 #[Sv E,Sv b]) a=.ok (Sv m) k/\NN c λa44=>St ((a44.add 7).add 2) (Sv m) (λh=>cond (((b.n:Nat):Int)==0) (NN c λa46=>St ((a46.add 7).add 0) (Iv 12) (λx=>K aN2 x) h) (NN c λr=>qL h (r.add 0) 1 λF=>qF py #[Sv b,Iv F] h λG l=>cond G (NN c λa53=>St ((a53.add 7).add 0) (Iv 13) (λy=>K aN2 y) l) (K aN3 l))) k)) w
def Oc(s:ch)(bK e f:Int)(g h:Bool):=
 Al (.cells #[Iv e,Iv f,.bool g,.bool h] 125) (λi w2=>zm BN #[Pv s,Iv bK] w2 λA B C D E m n z=>zg z λj k=>qU [Iv A,Iv B,Iv C,Iv D,Iv E,.bool m] j k λb=>dX n (K (Iv 14) b) (zn b i λo p q r=>zB Jt #[.agg #[Iv o,Iv p,.bool q,.bool r]] b λt u a=>qg (λd=>cond (u !=0) (K (Iv 1) a) (qL a i 0 λv=>cond (v==0) (K (Iv 1) a) (d a))) λc=>NN s λa27=>qZ c a27 1 λx=>qQ uK #[Pv x,Iv bK,.int .u64 t] c λy l=>K (Iv y) l)) w
def Od(x:Int):=
 zt BH #[.int .u64 x] w λf g h i j d=>zu d λb e=>qU [Iv f,Iv g,.bool h,.bool i] b e λa=>cond (j==0) (qL a b 0 λc=>K (.bool (c !=0)) a) (K aN2 a)
def Oe(c d e f g:Int)(h:Bool)(a:Addr):=
 zY #[Iv c,Iv d,Iv e,Iv f,Iv g,.bool h] w λb w2=>qL w2 b 0 λi=>qD w2 a λj=>cond (decide (i<=j)) (qD w2 a λk=>qL w2 b 1 λl=>K (.bool (decide (k<l))) w2) (K aN2 w2)
def Of(t:ch)(l:Sl)(target:Int)(whole:Sl):=
 qJ ss #[Pv t,Iv target] w λL I=>qQ JA #[Sv l,Sv L] I λo n=>ed o 0 (K (aN8) n) (qW l o 3 λH=>qL n H 0 λM=>qJ q7 #[Pv t,Iv M] n λy J=>qQ JB #[Sv y,Iv target,Sv whole] J λk h=>ed k 0 (qC #[Iv o] h λp r=>K (.slice (some p) 1 1) r) (qJ ss #[Pv t,Iv k] h λz s=>qf ⟨none,0,0⟩ 0 s λf a b e=>fB b l.n (qW l b 3 λa26=>qa e a26 λA B C=>zz e λd u=>qU [Iv A,Iv B,.bool C] d u λc=>qh (λg=>qy c d 2 λE=>cond E (qL c d 0 λF=>qF py #[Sv z,Iv F] c λG v=>g G v) (g false c)) λD i=>cond D (qC #[Iv b] i λq x=>∃m:Sl,∃j:bH,Sem.run P (Builtin.append_ #[22,22] 22 #[Sv a,.slice (some q) 1 1]) x=.ok (Sv m) j/\(f m (i64.wrap (b+1)) j)) ((f a (i64.wrap (b+1)) i))) (K (Sv a) e)))
def Og(j k:Int)(l m:Bool):=
 Al (.cells #[Iv j,Iv k,.bool l,.bool m] 125) (λa w2=>zn w2 a λx y z A=>qF B1 #[.agg #[Iv x,Iv y,.bool z,.bool A]] w2 λB q=>dX B (K (.tuple #[.int .u64 0,Iv 1]) q) (Dr (λh=>zn h a λd e i g=>qJ B0 #[] h λr b=>za b a 3 (.bool g) λC=>za b a 2 (.bool i) λD=>zH b a 1 (Iv e) λE=>zH b a 0 (Iv d) λF=>qQ CL #[.bool i] b λs c=>za c a 3 (.bool g) λG=>zH c a 1 (Iv e) λH=>zH c a 0 (Iv d) λI=>qQ CL #[.bool g] c λt f=>zH f a 1 (Iv e) λJ=>zH f a 0 (Iv d) λL=>qC #[Iv d,Iv e,Iv s,Iv t] f λn o=>zB CK #[Sv r,.slice (some n) 4 4] o λu v p=>K (.tuple #[.int .u64 u,Iv v]) p) q)) w
def Oh(l k:Sl):=
 Al (.cells #[Sv k] 22) (λx w2=>qC #[Iv 0] w2 λg y=>St g (Iv 0) (λz=>qI (-1) 0 z λi b a h=>fB a l.n (qW l a 3 λj=>qa h j λo p q=>zz h λc m=>qU [Iv o,Iv p,.bool q] c m λd=>qa d c λr s t=>qF Vu #[.agg #[Iv r,Iv s,.bool t],Pv (some g),Pv (some x)] d λu e=>cond u (Dr (λf=>qL f c 1 λv=>St g (Iv v) (λn=>(i a (i64.wrap (a+1)) n)) f) e) ((i b (i64.wrap (a+1)) e))) (K (Iv b) h)) y) w
variable{K w}
def Z0(c b a)(h:NL K w c b a):=bM {} #[Pv (some c),Pv (some b),Pv (some a)] K w func99 h
def Z1(s)(h:NM K w s):=bM (z8 [] [(1,[[0,1,2,3,5,6,7,8,4,9,10,11,12]],[4,9,11])]) #[Pv s] K w func101 h
def Oi:dO:={}
def Z2:Nat->Bool:=λd=>[].contains d
def Z3(t:ch)(yield:bE)(K:bg1)(w:bH):m1 P fF gL cz Oi Z2 f103 #[(.pointer t),yield] K w=Dn K w t yield:=by kernel_rfl
def Z4:m2 P Oi f103 2=true:=by kernel_rfl
def Z5(t:ch)(yield:bE){K:bg1}{w:bH}(h:Dn K w t yield):Calls P nX #[(Pv t),yield] w (cA K):=nU mixed func103 Z4 (by rw[Z3];exact h)
def Z6(t bK)(h:NO K w t bK):=bM {(z8 [16,27,28,42,43,44,45] [(7,[[0,1,2,4,5,3,6,7,8]],[3])] [(5,[(6,.ptr),(15,jZ)])]:dO)with head:=λr=>(bif r==12 then 17 else 0)} #[Pv t,Iv bK] K w func106 h
def Z7(x)(h:NP K w x):=bM (z8 [14,24,25,27,28] [(4,[jQ 15],[13,14])]) #[.int .u64 x] K w func107 h
def Z8(h:ZX K w):=bM {} #[] K w func120 h
def Z9(n)(h:ZY K w n):=bM (z8 [4,7]) #[Iv n] K w func130 h
def azy(l a b c d e f)(h:NQ K w l a b c d e f):=bM {(z8 [17,18,24,26,29,30,39] [(8,[[0,1,2,3,4,7,8,9,5,6,10,11,12]],[5,6,10])] [] [(3,[]),(6,[(6,jZ)]),(8,[])]:dO)with head:=λr=>(bif r==6 then 14 else 0)} #[Sv l,.agg #[Iv a,Iv b,Iv c,Iv d,Iv e,.bool f]] K w func131 h
def aq2(t bK)(h:NR K w t bK):=bM {} #[Pv t,Iv bK] K w func134 h
def azz(l a b)(h:NS K w l a b):=bM (z8 [16,18,23,38,45,49] [] [(6,[(17,jZ)])]) #[Sv l,Iv a,Iv b] K w func135 h
def ap4(s bK)(h:NT K w s bK):=bM {} #[Pv s,Iv bK] K w func136 h
def avG(c id)(h:NU K w c id):=bM {} #[Pv c,Iv id] K w func137 h
def Oj(c:ch)(jO:bE)(K:bg1)(w:bH):Prop:=
 ∃(n:bg0) (M2:bH->Nat),(Dr (λh=>NN c λH=>qZ h H 5 λJ=>NN J λI=>qK h I 1 λL=>NN c λp=>qL h (p.add 0) 1 λz=>qW L z 2 λq=>qL h q 0 λA=>eY P jO #[Iv A] h λu e=>∃j:Int,∃k:Int,∃b:Int,u=.returned (.tuple #[Iv j,Iv k,Iv b])/\cond (b==0) (K (.tuple #[Iv j,.bool true]) e) (cond (b !=12) (NN c λr=>St ((r.add 7).add 0) (Iv b) (λx=>K (.tuple #[Iv (-1),.bool false]) x) e) (qF xM #[Pv c,Iv k] e λB i=>cond B (n i) (K (.tuple #[Iv (-1),.bool false]) i)))) w)/\∀M:Nat->bE,∀o:bH,n o->Dr (λa=>NN c λa25=>qZ a a25 5 λC=>NN C λa27=>qK a a27 1 λD=>NN c λa29=>qL a (a29.add 0) 1 λE=>qW D E 2 λs=>qL a s 0 λF=>eY P jO #[Iv F] a λv f=>∃l:Int,∃m:Int,∃d:Int,v=.returned (.tuple #[Iv l,Iv m,Iv d])/\cond (d==0) (K (.tuple #[Iv l,.bool true]) f) (cond (d !=12) (NN c λt=>St ((t.add 7).add 0) (Iv d) (λy=>K (.tuple #[Iv (-1),.bool false]) y) f) (qF xM #[Pv c,Iv m] f λG g=>cond G ((n g/\M2 g<M2 o)) (K (.tuple #[Iv (-1),.bool false]) g)))) o
def ayj(c jO)(h:Oj c jO K w):=bM {(z8 [32,36] [(1,[jQ 24],[16])]:dO)with dyn:=λd=>[26].contains d,goto:=λl=>(bif l==0 then some []else none)} #[Pv c,jO] K w func138 h
def asw(group c b a)(h:NV K w group c b a):=bM (z8 [] [(1,[[0,1,2,3,4,5,6,7,8,10,9,11,12,13,14,15,16,17]],[9,11])]) #[Iv group,Pv (some c),Pv (some b),Pv (some a)] K w func139 h
def azA(a b c d e f bK)(h:NW K w a b c d e f bK):=bM (z8 [7,13,16]) #[.agg #[Iv a,Iv b,Iv c,Iv d,Iv e,.bool f],Iv bK] K w func141 h
def avH(c bK id kind write)(h:NX K w c bK id kind write):=bM {} #[Pv c,Iv bK,Iv id,Iv kind,.bool write] K w func142 h
def ar9(t bK x)(h:NY K w t bK x):=bM (z8 [18,29,42,43,44,53,65,66,67] [(14,[jQ 19],[15,18])] [(5,[(7,.ptr),(17,jZ)])] [(10,[])]) #[Pv t,Iv bK,.int .u64 x] K w func146 h
def ax0(x)(h:NZ K w x):=bM (z8 [6]) #[.int .u64 x] K w func147 h
def avI(group c b a)(h:N0 K w group c b a):=bM (z8 [] [(2,[jQ 17],[10])]) #[Iv group,Pv (some c),Pv (some b),Pv (some a)] K w func148 h
def sS:dO:={}
def Ds:Nat->Bool:=λd=>[].contains d
def aqp(t:ch)(K:bg1)(w:bH):m1 P fF gL cz sS Ds f154 #[(.pointer t)] K w=Dp K w t:=by kernel_rfl
def ap6:m2 P sS f154 1=true:=by kernel_rfl
def ap0(t:ch){K:bg1}{w:bH}(h:Dp K w t):Calls P BU #[(Pv t)] w (cA K):=nU mixed func154 ap6 (by rw[aqp];exact h)
def Ol(i j:Addr)(c:Int)(d:Nat)(w:bH)(R:Ending->bg0):Prop:=
 lf d (λa=>qb a i λf=>zh so #[Pv f,Iv c] a λg k b=>qb b j λh=>qQ uK #[Pv h,Iv c,.int .u64 g] b λl e=>e2 d none R e) w
def ao0(t:ch)(c:Addr)(f:ch)(d:Addr)(e:ch)(a:Int)(b:Nat)(w:bH)(R:Ending->bg0):mo P fF gL cz sS Ds 22 b (j6 f154.body) (j7 f154.body) (lj [(10,.int .i64 a)] (((((((jg [(.pointer t)] 0 .nil).put (some 1) (.pointer (some c))).put (some 2) (.pointer none)).put (some 7) (.pointer f)).put (some 3) (.pointer (some d))).put (some 8) (.pointer e)).put (some 9) (.func (.func nX) #[(.pointer e)] #[]))) w R=Ol c d a b w R:=by kernel_rfl
def aoZ:gK P 22 sS (j6 f154.body)=true/\gK P 22 sS (j7 f154.body)=true:=⟨by kernel_rfl,by kernel_rfl⟩
def Om:dO:={quiet:=λd=>[12,15,17,24,25,26,27,30,38,48].contains d,loop:=λr=>(bif r==2 then[(11,.int .i64)]else[])}
def arh:Nat->Bool:=λd=>[46].contains d
def arf(n:ch)(level a:Int)(yield:bE)(K:bg1)(w:bH):m1 P fF gL cz Om arh f161 #[(.pointer n),(.int .i64 level),(.int .i64 a),yield] K w=x7 K w n level a yield:=by kernel_rfl
def aq9:m2 P Om f161 4=true:=by kernel_rfl
def On(n:ch)(level a:Int)(yield:bE){K:bg1}{w:bH}(h:x7 K w n level a yield):Calls P xH #[(Pv n),(Iv level),(Iv a),yield] w (cA K):=nU mixed func161 aq9 (by rw[arf];exact h)
def ax4(bK)(h:ZZ K w bK):=bM (z8 [4,7]) #[Iv bK] K w func164 h
def ax3(bK level)(h:N1 K w bK level):=bM (z8 [7,8,9,10,11]) #[Iv bK,Iv level] K w func165 h
def awU(h:N2 K w):=bM {} #[] K w func167 h
def ax1(a b c d)(h:N3 K w a b c d):=bM (z8 [5,9,14,19]) #[.agg #[Iv a,Iv b,.bool c,.bool d]] K w func168 h
def aw0(l)(h:N4 K w l):=bM (z8 [7,9,19,23] [] [(3,[(3,jZ),(8,jZ)])]) #[Sv l] K w func196 h
def aw1(a b c d e f)(h:N5 K w a b c d e f):=bM (z8 [5,11,16,21,24,28,31,34,38,43,52,53,54] [] [] [(3,[])]) #[.agg #[Iv a,Iv b,Iv c,Iv d,Iv e,.bool f]] K w func197 h
def awY(b c d e f g a)(h:N6 K w b c d e f g a):=bM (z8 [8]) #[.agg #[Iv b,Iv c,Iv d,Iv e,Iv f,.bool g],Pv (some a)] K w func199 h
def Oo(n bK level)(h:Dq K w n bK level):=bM (z8 [11,20,31,47,48,49] [] [] [(5,[])]) #[Pv n,Iv bK,Iv level] K w func200 h
def awZ(d e f g i j a c b)(h:N7 K w d e f g i j a c b):=bM (z8 [9] [(2,[jQ 8],[4,5,6,7])]) #[.agg #[Iv d,Iv e,Iv f,Iv g,Iv i,.bool j],Iv a,Iv c,Pv (some b)] K w func201 h
def ax6(c d e f g i a b)(h:N8 K w c d e f g i a b):=bM (z8 [9,15,16] [] [] [(3,[])]) #[.agg #[Iv c,Iv d,Iv e,Iv f,Iv g,.bool i],Iv a,Iv b] K w func202 h
def ax5(l bK)(h:N9 K w l bK):=bM (z8 [11]) #[Sv l,Iv bK] K w func203 h
def asr(group b a)(h:Oa K w group b a):=bM (z8 [] [(1,[jQ 15],[9])]) #[Iv group,Pv (some b),Pv (some a)] K w func204 h
def axa(c target)(h:Ob K w c target):=bM (z8 [32,34,43,57,58] [(1,[[0,1,2,3,4,5,6,8,9,10,11,13,14,15,16,17,18,19,20,7,12,21,22,23]],[7,12,21,22])] [(3,[(33,jZ)])]) #[Pv c,Iv target] K w func206 h
def asi(s bK a b c d)(h:Oc K w s bK a b c d):=bM (z8 [25,29] [] [] [(7,[])]) #[Pv s,Iv bK,.agg #[Iv a,Iv b,.bool c,.bool d]] K w func210 h
def azw(x)(h:Od K w x):=bM (z8 [11,15]) #[.int .u64 x] K w func212 h
def avz(b c d e f g a)(h:Oe K w b c d e f g a):=bM (z8 [7,12]) #[.agg #[Iv b,Iv c,Iv d,Iv e,Iv f,.bool g],Pv (some a)] K w func256 h
def avE(t l target whole)(h:Of K w t l target whole):=bM (z8 [21,33,40,42,58] [] [(10,[(12,.slice),(41,jZ)])] [(13,[(53,.bool)])]) #[Pv t,Sv l,Iv target,Sv whole] K w func260 h
def azv(a b c d)(h:Og K w a b c d):=bM (z8 [] [(3,[[1,2,3,4,5,6,8,9,0,7,10,11,12,13,14,15,16]],[0,7,10,11,12])]) #[.agg #[Iv a,Iv b,.bool c,.bool d]] K w func264 h
def ayb(l a)(h:Oh K w l a):=bM (z8 [12,14,24] [(7,[jQ 5],[4])] [(4,[(5,jZ),(13,jZ)])]) #[Sv l,Sv a] K w func289 h
end Go.Mp
namespace Go.Mp
open Go Go.Vc Go.Proofs
variable{K:bg1}{w:bH}
variable(K w)
def Oq(chain:Sl)(target:Int)(whole:Sl):=
 Al (.cells #[Sv whole] 194) (λi w2=>qQ uP #[Sv chain,Iv target] w2 λk j=>qO k j λh i10 b=>cond (decide (i10≥0)) (qW chain i10 1 λc=>qD b c λe=>qF Vv #[Iv e,Pv (some i)] b λf a=>cond f (qW chain i10 1 λd=>qD a d λg=>K (Iv g) a) ((h (i64.wrap (i10-1)) a))) (K (Iv (-1)) b)) w
def aBk(b:Bool):=
 cond b (K (Iv 1) w) (K (Iv 0) w)
def Ot(d e:Int)(f:Bool)(c a:Addr):=
 Al (.cells #[Iv d,Iv e,.bool f] 42) (λb w2=>qy w2 b 2 λi=>cond i (qL w2 b 1 λj=>qD w2 c λk=>cond (decide (j>k)) (qc w2 a λl=>qL w2 b 0 λm=>qF py #[Sv l,Iv m] w2 λg h=>K (.bool g) h) (K aN2 w2)) (K aN2 w2)) w
def Ou(g:Int)(a:Addr):=
 cond (decide ((0:Int)<=g)) (qc w a λb=>fB g b.n (qc w a λc=>qW c g 1 λa3=>qm w a3 λd=>K (.bool d) w) (K aN2 w)) (K aN2 w)
variable{K w}
def aw5(chain target whole)(h:Oq K w chain target whole):=bM (z8 [16,18] [] [(4,[(9,jZ)])]) #[Sv chain,Iv target,Sv whole] K w func290 h
def aAY(b)(h:aBk K w b):=bM {} #[.bool b] K w func292 h
def avF(c d e b a)(h:Ot K w c d e b a):=bM (z8 [11]) #[.agg #[Iv c,Iv d,.bool e],Pv (some b),Pv (some a)] K w func304 h
def aul(g a)(h:Ou K w g a):=bM (z8 [5,9,10]) #[Iv g,Pv (some a)] K w func305 h
end Go.Mp
namespace Go.Mp
open Go Go.Vc Go.Sp Go.Proofs Go.Kc Go.Kv
variable{E:Env}{L:cv}{w W:bH}
def Dt(i:Nat):bU .i64 (i:Int) 15=((i%16:Nat):Int):=by
 have h1:(BitVec.ofInt 64 (i:Int) &&& BitVec.ofInt 64 15).toNat=i%16:=by
  rw[wc,pX,tw];have:(BitVec.ofInt 64 15).toNat=15:=by decide
  rw[this];have h2:=tq (i%2^64) 4;rw[show(2:Nat)^4-1=15 by decide]at h2;rw[h2];omega
 show i64.wrap ((BitVec.ofInt 64 (i:Int) &&& BitVec.ofInt 64 15).toNat:Int)=_;rw[h1];exact cR bu bu
def nC{n:Nat}(h:n<65536):IntKind.u16.wrap (n:Int)=(n:Int):=by
 unfold IntKind.wrap;simp only[IntKind.signed,IntKind.bits,wi];rw[bJ bN];omega
def rh(i:Nat):bU .u16 (i:Int) 1=((i%2:Nat):Int):=by
 have h1:(BitVec.ofInt 16 (i:Int) &&& BitVec.ofInt 16 1).toNat=i%2:=by
  rw[wc,pX,tw];have:(BitVec.ofInt 16 1).toNat=1:=by decide
  rw[this];have h2:=tq (i%2^16) 1;rw[show(2:Nat)^1-1=1 by decide]at h2;rw[h2];omega
 show IntKind.u16.wrap ((BitVec.ofInt 16 (i:Int) &&& BitVec.ofInt 16 1).toNat:Int)=_;rw[h1];exact nC bu
def Ov(bK:Int)(w:bH):Calls P BY #[Iv bK] w (cA λv w'=>v=.bool (decide (0<=bK/\bK<65536))/\w'=w):=by
 apply ax4;refine h4 (λa=>⟨?_,rfl⟩) (λa=>⟨?_,rfl⟩);·exact eK Value.bool (tD.2 ⟨λe=>⟨a,e⟩,λe=>e.2⟩)
 ·exact eK Value.bool (di (λe=>bu)).symm
def sT{p l:Nat}(hl:l<=3)(w:bH):Calls P sw #[Iv (p:Nat),Iv (l:Nat)] w (cA λv w'=>v=Iv (p/16^(3-l)%16:Nat)/\w'=w):=by
 apply ax3;have e:u64.wrap (i64.wrap (4*(i64.wrap (3-((l:Nat):Int)))))=((4*(3-l):Nat):Int):=by
  have:l=0\/l=1\/l=2\/l=3:=by omega
  rcases this with rfl|rfl|rfl|rfl<;>decide
 unfold N1;rw[e];refine⟨bu,?_,rfl⟩;have a:min ((((4*(3-l):Nat):Int)).toNat) 64=4*(3-l):=by omega
 rw[a,sh p (4*(3-l)),Dt];have b:(2:Nat)^(4*(3-l))=16^(3-l):=by rw[Nat.pow_mul]
 rw[b]
def aFv{ks ws:bA (bW Nat)}{h d:Nat}(hk:ks.length=16)(a:d<16):(gu ks ws h)[d]?=some (.pointer ((ks.getD d none).map λb=>⟨b,0,none⟩)):=by
 unfold gu mm;rw[eN (by simp;omega),eI,dT,dN];rfl
def aDM{ks ws:bA (bW Nat)}{h d:Nat}(hk:ks.length=16)(hw:ws.length=16)(a:d<16):(gu ks ws h)[16+d]?=some (.int .u64 (((ws.getD d none).getD 0:Nat):Int)):=by
 unfold gu mm m0;rw[fR (by simp;omega),en,hk,tt,eN (by simp;omega),eI,dT (l:=ws),dN];rfl
def oM{ks ws:bA (bW Nat)}{h:Nat}(hk:ks.length=16)(hw:ws.length=16):(gu ks ws h)[32]?=some (.int .u16 (h:Int)):=by
 unfold gu mm m0;rw[fR (by simp;omega),en,hk,fR (by simp;omega),en,hw];rfl
def n0:dB.length=16:=by simp[dB]
def gM{m:Nat}(t:RT (m+1))(d:Nat):bW (Nat×RT m):=List.getD (t:bA (bW (Nat×RT m))) d none
def aJ7{α:Type}(ks:bA (bW (Nat×α)))(d:Nat):(ks.map (Option.map Prod.fst)).getD d none=(ks.getD d none).map Prod.fst:=by
 rw[dT,eI,dT];cases ks[d]? with
 |none=>rfl
 |some y=>cases y<;>rfl
def uY{m d:Nat}{t:RT (m+1)}(c:RT.ok (m+1) t)(a:d<16):(RT.vs (m+1) t)[d]?=some (.pointer ((gM t d).map λq=>⟨q.1,0,none⟩)):=by
 obtain⟨ks,rfl⟩:∃ks:bA (bW (Nat×RT m)),ks=t:=⟨t,rfl⟩
 have hl:ks.length=16:=c.1;have h1:(gu (ks.map (Option.map Prod.fst)) dB (hasB (ks.map Option.isSome)))[d]?=some (.pointer (((ks.map (Option.map Prod.fst)).getD d none).map λb=>⟨b,0,none⟩)):=aFv (by rw[en];exact hl) a;rw[aJ7]at h1;have h2:(((ks.getD d none).map Prod.fst).map λb=>(⟨b,0,none⟩:Addr))=(ks.getD d none).map λq=>⟨q.1,0,none⟩:=by cases ks.getD d none<;>rfl
 rw[h2]at h1;exact h1
def nD{m:Nat}(t:RT (m+1))(p:Nat):RT.look (m+1) t p=match gM t (p/16^(m+1)%16)with|none=>none|some (_,s)=>RT.look m s p:=rfl
def x8{m d b:Nat}{t:RT (m+1)}{s:RT m}(a:RT.ok (m+1) t)(hk:gM t d=some (b,s)):RT.ok m s:=a.2 d b s hk
def aHe{m d b a:Nat}{t:RT (m+1)}{s:RT m}{M:cv}{w:bH}(hk:gM t d=some (a,s))(h:Sep E (dH (m+1) b t++M) w):∃e,(∀w,Sep E (dH (m+1) b t++M) w->Sep E (dH m a s++e) w)/\Sep E (dH m a s++e) w:=by
 obtain⟨ks,rfl⟩:∃ks:bA (bW (Nat×RT m)),ks=t:=⟨t,rfl⟩
 have c:ks[d]?=some (some (a,s)):=by
  have h1:ks.getD d none=some (a,s):=hk;rw[dT]at h1;cases h2:ks[d]? with
  |none=>rw[h2]at h1;cases h1
  |some y=>rw[h2]at h1;exact eK some h1
 exact⟨_,λw h=>dH.open c h,dH.open c h⟩
def pF{m b j:Nat}{t:RT m}{M:cv}{w:bH}(h:Sep E (dH m b t++M) w):w.cell? ⟨b,j,none⟩=(RT.vs m t)[j]? :=by
 cases m with
 |zero=>exact(show Sep E (bC b (RT.vs 0 t)::M) w from h).cell j
 |succ m=>exact(show Sep E (bC b (RT.vs (m+1) t)::(List.flatMap (e1 m) (t:bA (bW (Nat×RT m)))++M)) w from h).cell j
def aJr{t:RT 0}(a:RT.ok 0 t){p:Nat}:(RT.vs 0 t)[16+p%16]?=some (.int .u64 (((RT.look 0 t p).getD 0:Nat):Int))/\∃h:Nat,h<65536/\(RT.vs 0 t)[32]?=some (.int .u16 (h:Int))/\h/2^(p%16)%2=if(RT.look 0 t p).isSome then 1 else 0:=by
 obtain⟨ws,rfl⟩:∃ws:bA (bW Nat),ws=t:=⟨t,rfl⟩
 have hl:ws.length=16:=a;refine⟨aDM n0 hl (kL _ bN),hasB (ws.map Option.isSome),?_,oM n0 hl,?_⟩
 ·have:=oI (ws.map Option.isSome);rw[en,hl]at this;exact this
 ·rw[uz];have:(ws.map Option.isSome).getD (p%16) false=(ws.getD (p%16) none).isSome:=by
   rw[dT,eI,dT];cases ws[p%16]? with
   |none=>rfl
   |some y=>rfl
  rw[this];rfl
def il(T:RT 3)(bK:Int):bW Nat:=if 0<=bK/\bK<65536 then RT.look 3 T bK.toNat else none
def Du{t:Nat}{T:RT 3}{bK:Int}(F:RT.ok 3 T)(h:Sep E (dH 3 t T++L) w):Calls P so #[Pb t,Iv bK] w
  (cY E (.tuple #[.int .u64 (((il T bK).getD 0:Nat):Int),.bool (il T bK).isSome]) (dH 3 t T++L)):=by
 apply Z6;unfold NO qF qQ qb zb;refine use (Ov bK w) ?_;rintro _ _ ⟨rfl,rfl⟩;refine⟨_,rfl,cw (λhr=>?_) (λhr=>?_)⟩
 ·have hr:¬ (0<=bK/\bK<65536):=kb (by simpa only[h9]using hr);unfold il;rw[bJ hr];exact⟨rfl,h⟩
 have hr:0<=bK/\bK<65536:=by simpa using hr
 have u:il T bK=RT.look 3 T bK.toNat:=by unfold il;rw[bL hr]
 obtain⟨p,rfl⟩:∃p:Nat,bK=p:=⟨bK.toNat,bu⟩
 rw[dz]at u;rw[u];refine⟨_,rfl,λn9 x w'=>∃(n b:Nat) (s:RT n) (M:cv),x=((3-n:Nat):Int)/\n<=3/\n9=some ⟨b,0,none⟩/\RT.ok n s/\RT.look n s p=RT.look 3 T p/\(∀w,Sep E (dH 3 t T++L) w->Sep E (dH n b s++M) w)/\Sep E (dH 3 t T++L) w',
  λ_ x _=>(3-x).toNat,⟨3,t,T,L,rfl,ep _,by rw[cj],F,rfl,λ_ h=>h,h⟩,?_⟩
 rintro _ _ _ K ⟨n,b,s,M,rfl,hn,rfl,q,a,o,h1⟩;refine cX (λQ=>?_) (λO=>?_)
 ·obtain⟨m,rfl⟩:∃m,n=m+1:=⟨n-1,bu⟩
  refine Dr.i h1 (λw2 h2=>⟨_,rfl,use (sT (p:=p) (l:=3-(m+1)) bu w2) ?_⟩);rintro _ _ ⟨rfl,rfl⟩;have H:3-(3-(m+1))=m+1:=by omega
  rw[H];obtain⟨d,C⟩:∃d,p/16^(m+1)%16=d:=⟨_,rfl⟩
  rw[C];have g:d<16:=by omega
  have I:=uY q g;have c:=nD s p;rw[C]at c;have f:=o _ h2;have B:=pF (j:=d) f;rw[I]at B;refine⟨_,rfl,_,rfl,⟨bu,bu⟩,?_⟩;rw[cj,cj,dz,show 0+0+d*1=d by omega];refine⟨_,B,?_⟩;cases hk:gM s d with
  |none=>
   rw[hk]at c;refine bT rfl ⟨?_,h2⟩;rw[<- a,c];rfl
  |some y=>
   obtain⟨J,s'⟩:=y;rw[hk]at c;obtain⟨G,r,_⟩:=aHe hk f;refine bF rfl ⟨⟨m,J,s',G,?_,bu,rfl,x8 q hk,by rw[<- a,c],λw h=>r w (o w h),h2⟩,?_⟩;·rw[de];omega
   ·rw[de];show((3:Int)-((3-(m+1)+1:Nat):Int)).toNat<((3:Int)-((3-(m+1):Nat):Int)).toNat;omega
 ·have D:n=0:=by omega
  subst D;refine use (sT (p:=p) (l:=3) bu K) ?_;rintro _ _ ⟨rfl,rfl⟩;obtain⟨hw,hb,N,z,A⟩:=aJr q (p:=p);rw[show p/16^(3-3)%16=p%16 by rw[jd,zr,zE]];have g:p%16<16:=kL _ bN;refine⟨_,rfl,Dr.i h1 (λw2 h2=>?_)⟩;have f:=o _ h2;have i:=pF (j:=16+p%16) f;have k:=pF (j:=32) f;rw[hw]at i;rw[z]at k;refine⟨_,rfl,_,rfl,⟨bu,bu⟩,?_⟩;rw[cj,cj,dz,show 0+16+p%16*1=16+p%16 by omega];refine⟨_,i,_,rfl,_,by rw[cj,fy];exact k,?_,?_,h2⟩;·rw[ds];omega
  ·have e:(bU .u16 ((hb:Int).fdiv (2^(min (u64.wrap ((p%16:Nat):Int)).toNat 16))) 1 !=0)=(RT.look 3 T p).isSome:=by
    rw[ds,dz,show min (p%16) 16=p%16 by omega,sh,rh,A,a];cases(RT.look 3 T p).isSome<;>rfl
   rw[e,a]
def nE(n:Nat)(t a:RT n)(p x:Nat):Prop:=∀q,RT.look n a q=if q%16^(n+1)=p%16^(n+1)then some x else RT.look n t q
def ha{m:Nat}(t:RT (m+1))(d:Nat)(k:Nat×RT m):RT (m+1):=List.set (t:bA (bW (Nat×RT m))) d (some k)
def x9{m d e:Nat}{t:RT (m+1)}{k:Nat×RT m}(b:RT.ok (m+1) t)(c:d<16):gM (ha t d k) e=if e=d then some k else gM t e:=by
 obtain⟨ks,rfl⟩:∃ks:bA (bW (Nat×RT m)),ks=t:=⟨t,rfl⟩
 have hl:ks.length=16:=b.1;show(ks.set d (some k)).getD e none=if e=d then some k else ks.getD e none
 rw[dT,hd,dT];by_cases h:d=e;·rw[bL h,eJ,bL h.symm];rfl
 ·rw[bJ h,bJ (λa=>h a.symm)]
def Dv{m d:Nat}{t:RT (m+1)}{b:Nat}{s:RT m}(a:RT.ok (m+1) t)(f:d<16)(ho:RT.ok m s):RT.ok (m+1) (ha t d (b,s)):=by
 have hl:List.length (t:bA (bW (Nat×RT m)))=16:=a.1;refine⟨by show(List.set (t:bA (bW (Nat×RT m))) d (some (b,s))).length=16;exact dM.trans hl,λi c e h=>?_⟩;have h:gM (ha t d (b,s)) i=some (c,e):=h;rw[x9 a f]at h;split at h;·cases h;exact ho
 ·exact a.2 i c e h
def Dw(p n:Nat):p/16^n%16=p%16^(n+1)/16^n:=by
 rw[p3,Nat.mod_mul_right_div_self]
def eG{p q n:Nat}:q%16^(n+1+1)=p%16^(n+1+1)↔q/16^(n+1)%16=p/16^(n+1)%16/\q%16^(n+1)=p%16^(n+1):=by
 have key:∀a:Nat,a%16^(n+1+1)=16^(n+1)*(a/16^(n+1)%16)+a%16^(n+1):=by
  intro a;rw[Dw a (n+1)];have h1:=Nat.div_add_mod (a%16^(n+1+1)) (16^(n+1));have h2:a%16^(n+1+1)%16^(n+1)=a%16^(n+1):=Nat.mod_mod_of_dvd _ ⟨16,by rw[p3]⟩;rw[h2]at h1;exact h1.symm
 constructor
 ·intro h;refine⟨by rw[Dw q (n+1),Dw p (n+1),h],?_⟩;have h2:∀a:Nat,a%16^(n+1+1)%16^(n+1)=a%16^(n+1):=λa=>Nat.mod_mod_of_dvd _ ⟨16,by rw[p3]⟩;rw[<- h2 q,<- h2 p,h]
 ·rintro⟨h1,h2⟩;rw[key q,key p,h1,h2]
def nE.up{m d b p x:Nat}{t:RT (m+1)}{s s':RT m}(i:RT.ok (m+1) t)(g:p/16^(m+1)%16=d)(hk:(∃f,gM t d=some (f,s))\/(gM t d=none/\s=RT.zero m))(h:nE m s s' p x):nE (m+1) t (ha t d (b,s')) p x:=by
 have c:d<16:=by omega
 intro q;rw[nD,nD,x9 i c];by_cases a:q/16^(m+1)%16=d
 ·rw[bL a];show RT.look m s' q=_;rw[h q];by_cases h2:q%16^(m+1)=p%16^(m+1);·rw[bL h2,bL (eG.2 ⟨bu,h2⟩)]
  ·rw[bJ h2,bJ (λe=>h2 (eG.1 e).2),a];rcases hk with⟨f,hk⟩|⟨hk,rfl⟩
   ·rw[hk]
   ·rw[hk];exact RT.jA m q
 ·rw[bJ a,bJ (λe=>a (by rw[(eG.1 e).1];exact g))]
def ri(t:RT 0)(d x:Nat):RT 0:=List.set (t:bA (bW Nat)) d (some x)
def nE.leaf{p x:Nat}{t:RT 0}(b:RT.ok 0 t):nE 0 t (ri t (p%16) x) p x:=by
 obtain⟨ws,rfl⟩:∃ws:bA (bW Nat),ws=t:=⟨t,rfl⟩
 have hl:ws.length=16:=b;intro q;show(ws.set (p%16) (some x)).getD (q%16) none=if q%16^1=p%16^1 then some x else ws.getD (q%16) none
 rw[Nat.pow_one,dT,hd,dT];have:=kL p (by decide:0<16);by_cases h:p%16=q%16;·rw[bL h,eJ,bL h.symm];rfl
 ·rw[bJ h,bJ (λa=>h a.symm)]
def aJe{t:RT 0}{d x:Nat}(a:RT.ok 0 t):RT.ok 0 (ri t d x):=by
 show(List.set (t:bA (bW Nat)) d (some x)).length=16;exact dM.trans a
def ya(l:bA Bool)(i:Nat):(hasB l).testBit i=l.getD i false:=by
 rw[bc5,uz];cases l.getD i false<;>rfl
def Ow(l:bA Bool){d:Nat}(a:d<l.length):hasB l ||| 2^d=hasB (l.set d true):=by
 apply vX;intro i;rw[Nat.testBit_or,rI,ya,ya,dT,dT,hd];by_cases h:d=i;·subst h;simp[a]
 ·simp[h]
def uZ{h d:Nat}(c:h<65536)(g:d<16):iU .u16 (h:Int) (IntKind.u16.wrap (1*2^(min (u64.wrap ((d:Nat):Int)).toNat 16)))=((h ||| 2^d:Nat):Int):=by
 have h2:(2:Nat)^d<65536:=by
  have:(2:Nat)^d<=2^15:=tu bN bu;omega
 have e:IntKind.u16.wrap (1*2^(min (u64.wrap ((d:Nat):Int)).toNat 16))=((2^d:Nat):Int):=by
  rw[ds,dz,show min d 16=d by omega,Int.one_mul];have:((2:Int)^d)=((2^d:Nat):Int):=by rw[Int.natCast_pow];rfl
  rw[this];exact nC h2
 rw[e];show IntKind.u16.wrap ((BitVec.ofInt 16 (h:Int) ||| BitVec.ofInt 16 ((2^d:Nat):Int)).toNat:Int)=_;have b:∀a:Nat,a<65536->(BitVec.ofInt 16 (a:Int)).toNat=a:=λa f=>by
  rw[pX,tw];exact mI bu
 rw[BitVec.toNat_or,b h c,b _ h2];exact nC (Nat.or_lt_two_pow (n:=16) c h2)
def aJs{m d b:Nat}{t:RT (m+1)}{s:RT m}(f:RT.ok (m+1) t)(e:d<16):∃h:Nat,h<65536/\(RT.vs (m+1) t)[32]?=some (.int .u16 (h:Int))/\
  ((RT.vs (m+1) t).set d (Pb b)).set 32 (.int .u16 ((h ||| 2^d:Nat):Int))=RT.vs (m+1) (ha t d (b,s)):=by
 obtain⟨ks,rfl⟩:∃ks:bA (bW (Nat×RT m)),ks=t:=⟨t,rfl⟩
 have hl:ks.length=16:=f.1;have c:(ks.map Option.isSome).length=16:=by rw[en];exact hl
 refine⟨hasB (ks.map Option.isSome),?_,oM (by rw[en];exact hl) n0,?_⟩
 ·have:=oI (ks.map Option.isSome);rw[c]at this;exact this
 ·rw[Ow _ (by rw[c];exact e)];show((gu (ks.map (Option.map Prod.fst)) dB _).set d _).set 32 _=gu ((ks.set d (some (b,s))).map (Option.map Prod.fst)) dB (hasB ((ks.set d (some (b,s))).map Option.isSome));rw[hL,hL];rw[show Option.isSome (some (b,s))=true from rfl];generalize hasB ((ks.map Option.isSome).set d true)=H;unfold gu mm m0;have a:((ks.map (Option.map Prod.fst)).map λk=>Value.pointer (k.map λb=>⟨b,0,none⟩)).length=16:=by simp[hl]
  rw[rG _ _ (by rw[a];exact e),hL];rw[ju 32 _ (by rw[dM,a];decide),dM,a];rw[ju _ _ (by simp[dB])];congr 2
def aJt{d x:Nat}{t:RT 0}(f:RT.ok 0 t)(e:d<16):∃h:Nat,h<65536/\(RT.vs 0 t)[32]?=some (.int .u16 (h:Int))/\
  ((RT.vs 0 t).set (16+d) (.int .u64 (x:Int))).set 32 (.int .u16 ((h ||| 2^d:Nat):Int))=RT.vs 0 (ri t d x):=by
 obtain⟨ws,rfl⟩:∃ws:bA (bW Nat),ws=t:=⟨t,rfl⟩
 have hl:ws.length=16:=f;have c:(ws.map Option.isSome).length=16:=by rw[en];exact hl
 refine⟨hasB (ws.map Option.isSome),?_,oM n0 hl,?_⟩
 ·have:=oI (ws.map Option.isSome);rw[c]at this;exact this
 ·rw[Ow _ (by rw[c];exact e)];show((gu dB ws _).set (16+d) _).set 32 _=gu dB (ws.set d (some x)) (hasB ((ws.set d (some x)).map Option.isSome));rw[hL];rw[show Option.isSome (some x)=true from rfl];generalize hasB ((ws.map Option.isSome).set d true)=H;unfold gu mm m0;have a:(dB.map λk=>Value.pointer (k.map λb=>⟨b,0,none⟩)).length=16:=by simp[dB]
  rw[ju (16+d) _ (by rw[a];omega),a,tt,rG d _ (by rw[en,hl];exact e)];rw[ju 32 _ (by rw[a];decide),a,ju _ _ (by rw[dM,en,hl];decide),dM,en,hl,hL];rfl
def aKo: [Value.pointer none,.pointer none,.pointer none,.pointer none,.pointer none,.pointer none,.pointer none,.pointer none,.pointer none,.pointer none,.pointer none,.pointer none,.pointer none,.pointer none,.pointer none,.pointer none,
  .int .u64 0,.int .u64 0,.int .u64 0,.int .u64 0,.int .u64 0,.int .u64 0,.int .u64 0,.int .u64 0,.int .u64 0,.int .u64 0,.int .u64 0,.int .u64 0,.int .u64 0,.int .u64 0,.int .u64 0,.int .u64 0,.int .u16 0]=gu dB dB 0:=by
 simp[gu,mm,m0,dB,List.replicate]
def Ox{m d b:Nat}{t:RT (m+1)}{s s':RT m}:RT.vs (m+1) (ha t d (b,s))=RT.vs (m+1) (ha t d (b,s')):=by
 obtain⟨ks,rfl⟩:∃ks:bA (bW (Nat×RT m)),ks=t:=⟨t,rfl⟩
 show gu ((ks.set d (some (b,s))).map (Option.map Prod.fst)) dB (hasB ((ks.set d (some (b,s))).map Option.isSome))=gu ((ks.set d (some (b,s'))).map (Option.map Prod.fst)) dB (hasB ((ks.set d (some (b,s'))).map Option.isSome));rw[hL,hL,hL,hL];simp only[gh,F8]
def Oy(n:Nat): [Value.pointer none,.pointer none,.pointer none,.pointer none,.pointer none,.pointer none,.pointer none,.pointer none,.pointer none,.pointer none,.pointer none,.pointer none,.pointer none,.pointer none,.pointer none,.pointer none,
  .int .u64 0,.int .u64 0,.int .u64 0,.int .u64 0,.int .u64 0,.int .u64 0,.int .u64 0,.int .u64 0,.int .u64 0,.int .u64 0,.int .u64 0,.int .u64 0,.int .u64 0,.int .u64 0,.int .u64 0,.int .u64 0,.int .u16 0]=RT.vs n (RT.zero n):=by
 have h1:RT.vs n (RT.zero n)=gu dB dB 0:=by
  cases n with
  |zero=>
   show gu dB (List.replicate 16 none) (hasB (List.map Option.isSome (List.replicate 16 (none:bW Nat))))=_;rw[Tn,show hasB (List.replicate 16 (Option.isSome (none:bW Nat)))=0 by simp[hasB,List.replicate]];rfl
  |succ n=>
   show gu (List.map (Option.map Prod.fst) (List.replicate 16 (none:bW (Nat×RT n)))) dB (hasB (List.map Option.isSome (List.replicate 16 (none:bW (Nat×RT n)))))=_;rw[Tn,Tn,show hasB (List.replicate 16 (Option.isSome (none:bW (Nat×RT n))))=0 by simp[hasB,List.replicate],show List.replicate 16 (Option.map Prod.fst (none:bW (Nat×RT n)))=dB from rfl]
 rw[h1];exact aKo
def Oz(n b:Nat):dH n b (RT.zero n)= [bC b (RT.vs n (RT.zero n))]:=by
 cases n with
 |zero=>rfl
 |succ n=>
  show bC b _::List.flatMap (e1 n) (List.replicate 16 none)=_;have:List.flatMap (e1 n) (List.replicate 16 none)= []:=by
   rw[List.flatMap_eq_nil_iff];intro x hx;rw[(List.mem_replicate.1 hx).2];rfl
  rw[this]
def OA{m d b a:Nat}{t:RT (m+1)}{s:RT m}{w:bH}(c:RT.ok (m+1) t)(e:d<16)(h:Sep E (dH m a s++(bC b (RT.vs (m+1) (ha t d (a,s)))::(j5 m (t:bA (bW (Nat×RT m))) d++L))) w):Sep E (dH (m+1) b (ha t d (a,s))++L) w:=
 dH.shut (ks:=(t:bA (bW (Nat×RT m)))) (by have:List.length (t:bA (bW (Nat×RT m)))=16:=c.1;omega) h
def OB{m d b:Nat}{t:RT (m+1)}{w:bH}(a:RT.ok (m+1) t)(c:d<16)(h:Sep E (dH (m+1) b t++L) w):
  Sep E (bC b (RT.vs (m+1) t)::((e1 m (gM t d))++(j5 m (t:bA (bW (Nat×RT m))) d++L))) w:=by
 obtain⟨ks,rfl⟩:∃ks:bA (bW (Nat×RT m)),ks=t:=⟨t,rfl⟩
 have hl:ks.length=16:=a.1;have hk:ks[d]?=some (gM ks d):=by
  have:gM ks d=ks.getD d none:=rfl;rw[this,dT,dN];rfl
 have h1:Sep E (bC b (RT.vs (m+1) ks)::(List.flatMap (e1 m) ks++L)) w:=h;rw[se hk]at h1;refine h1.perm (List.Perm.cons _ ?_);unfold j5;generalize List.flatMap (e1 m) (ks.take d)=A;generalize List.flatMap (e1 m) (ks.drop (d+1))=B;generalize e1 m (gM ks d)=C;simp only[dm];have h1:=rF (B++L) (lZ (l₁:=A) (l₂:=C));rwa[dm,dm]at h1
def aJW{t x:Nat}{T:RT 3}{bK:Int}(R:RT.ok 3 T)(h:Sep E (dH 3 t T++L) w):Calls P uK #[Pb t,Iv bK,.int .u64 (x:Int)] w
  (cA λv w'=>(¬ (0<=bK/\bK<65536)/\v=Iv 1/\Sep E (dH 3 t T++L) w')\/((0<=bK/\bK<65536)/\v=Iv 0/\∃T':RT 3,RT.ok 3 T'/\nE 3 T T' bK.toNat x/\Sep E (dH 3 t T'++L) w')):=by
 apply ar9;unfold NY qF qQ qb qg zb;refine use (Ov bK w) ?_;rintro _ _ ⟨rfl,rfl⟩;refine⟨_,rfl,cw (λhr=>?_) (λhr=>?_)⟩
 ·have hr:¬ (0<=bK/\bK<65536):=kb (by simpa only[h9]using hr);exact .inl ⟨hr,rfl,h⟩
 have hr:0<=bK/\bK<65536:=by simpa using hr
 obtain⟨p,rfl⟩:∃p:Nat,bK=p:=⟨bK.toNat,bu⟩
 rw[dz];obtain⟨G,I⟩:∃G:bg0,G= λw'=>∃T':RT 3,RT.ok 3 T'/\nE 3 T T' p x/\Sep E (dH 3 t T'++L) w':=⟨_,rfl⟩
 have fin:∀w',G w'->(¬ (0<=(p:Int)/\(p:Int)<65536)/\(Value.int .i64 0=Iv 1)/\Sep E (dH 3 t T++L) w')\/((0<=(p:Int)/\(p:Int)<65536)/\Value.int .i64 0=Iv 0/\∃T':RT 3,RT.ok 3 T'/\nE 3 T T' p x/\Sep E (dH 3 t T'++L) w'):=by
  intro w' O;rw[I]at O;exact .inr ⟨hr,rfl,O⟩
 refine⟨_,rfl,λn9 y w'=>∃(n b:Nat) (s:RT n) (M:cv),y=((3-n:Nat):Int)/\n<=3/\n9=some ⟨b,0,none⟩/\RT.ok n s/\(∀s' o,RT.ok n s'->nE n s s' p x->Sep E (dH n b s'++M) o->G o)/\Sep E (dH n b s++M) w',
  λ_ y _=>(3-y).toNat,⟨3,t,T,L,rfl,ep _,by rw[cj],R,λs' o h1 h2 g=>by rw[I];exact⟨s',h1,h2,g⟩,h⟩,?_⟩
 rintro _ _ _ o ⟨n,b,s,M,rfl,hn,rfl,c,C,h1⟩;refine cX (λW=>?_) (λV=>?_)
 ·obtain⟨m,rfl⟩:∃m,n=m+1:=⟨n-1,bu⟩
  refine use (sT (p:=p) (l:=3-(m+1)) bu o) ?_;rintro _ _ ⟨rfl,rfl⟩;have U:3-(3-(m+1))=m+1:=by omega
  rw[U];obtain⟨d,N⟩:∃d,p/16^(m+1)%16=d:=⟨_,rfl⟩
  rw[N];have a:d<16:=by omega
  have F:=uY c a;have J:=pF (j:=d) h1;rw[F]at J;have k:=OB c a h1;have hlen:(RT.vs (m+1) s).length=33:=by
   obtain⟨ks,rfl⟩:∃ks:bA (bW (Nat×RT m)),ks=s:=⟨s,rfl⟩
   have hl:ks.length=16:=c.1;show(gu (ks.map (Option.map Prod.fst)) dB _).length=33;simp[gu,mm,m0,dB,hl]
  refine⟨_,rfl,λw'=>∃(f:Nat) (s1:RT m),RT.ok m s1/\((∃S,gM s d=some (S,s1))\/(gM s d=none/\s1=RT.zero m))/\
   Sep E (bC b ((RT.vs (m+1) s).set d (Pb f))::(dH m f s1++(j5 m (s:bA (bW (Nat×RT m))) d++M))) w',?_,?_⟩
  ·refine⟨_,rfl,_,rfl,⟨bu,bu⟩,?_⟩;rw[cj,cj,dz,show 0+0+d*1=d by omega];refine⟨_,J,?_⟩;cases hk:gM s d with
   |none=>
    rw[hk]at k;refine bT rfl (Al.i k (λf w2 h2=>⟨_,rfl,_,rfl,⟨bu,bu⟩,?_⟩));rw[cj,cj,dz,show 0+0+d*1=d by omega];refine St.i h2.swap (by rw[hlen];omega) (λH g=>⟨f,RT.zero m,RT.lN m,.inr ⟨rfl,rfl⟩,?_⟩);rw[Oz,<- Oy];exact g
   |some y=>
    obtain⟨f,s1⟩:=y;rw[hk]at k;refine bF rfl ⟨f,s1,x8 c hk,.inl ⟨f,rfl⟩,?_⟩;have:(RT.vs (m+1) s).set d (Pb f)=RT.vs (m+1) s:=by
     rw[hk]at F;apply hg;intro i;rw[hd];split;·next e=>subst e;rw[F,bL (by rw[hlen];omega)];rfl
     ·rfl
    rw[this];exact k
  rintro _ w2 ⟨f,s1,D,hk,h2⟩;obtain⟨hb,q,r,u⟩:=aJs (b:=f) (s:=s1) c a;have z:w2.cell? ⟨b,32,none⟩=some (.int .u16 (hb:Int)):=by
   rw[h2.cell 32,ja bu,r]
  refine⟨_,rfl,_,by rw[cj,fy];exact z,by rw[ds];omega,_,rfl,?_⟩;dsimp only;rw[cj,fy,uZ q a];refine St.i h2 (by rw[dM,hlen];omega) (λH g=>?_);rw[u]at g;have K:H.cell? ⟨b,d,none⟩=some (Pb f):=by
   rw[g.cell d,uY (Dv c a D) a,x9 c a,bL rfl];rfl
  refine⟨_,rfl,_,rfl,⟨bu,bu⟩,?_⟩;rw[cj,cj,dz,show 0+0+d*1=d by omega];refine⟨_,K,⟨m,f,s1,bC b (RT.vs (m+1) (ha s d (f,s1)))::(j5 m (s:bA (bW (Nat×RT m))) d++M),?_,bu,rfl,D,?_,?_⟩,?_⟩;·rw[de];omega
  ·intro s' B ho hu A;refine C (ha s d (f,s')) B (Dv c a ho) (nE.up c N hk hu) (OA c a ?_);rw[Ox (s:=s') (s':=s1)];exact A
  ·exact g.perm jc.symm
  ·rw[de];show((3:Int)-((3-(m+1)+1:Nat):Int)).toNat<((3:Int)-((3-(m+1):Nat):Int)).toNat;omega
 ·have Q:n=0:=by omega
  subst Q;refine use (sT (p:=p) (l:=3) bu o) ?_;rintro _ _ ⟨rfl,rfl⟩;rw[show p/16^(3-3)%16=p%16 by rw[jd,zr,zE]];have a:p%16<16:=kL _ bN;refine⟨_,rfl,Dr.i h1 (λw2 h2=>?_)⟩;have h2:Sep E (bC b (RT.vs 0 s)::M) w2:=h2;have hlen:(RT.vs 0 s).length=33:=by
   obtain⟨ws,rfl⟩:∃ws:bA (bW Nat),ws=s:=⟨s,rfl⟩
   have hl:ws.length=16:=c;show(gu dB ws _).length=33;simp[gu,mm,m0,dB,hl]
  obtain⟨hb,q,r,u⟩:=aJt (x:=x) c a;have z:w2.cell? ⟨b,32,none⟩=some (.int .u16 (hb:Int)):=by rw[h2.cell 32,r]
  refine⟨_,rfl,_,by rw[cj,fy];exact z,by rw[ds];omega,_,rfl,_,rfl,⟨bu,bu⟩,?_⟩;rw[cj,cj,dz,show 0+16+p%16*1=16+p%16 by omega];refine St.i h2 (by rw[hlen];omega) (λH g=>⟨rfl,_,rfl,?_⟩);dsimp only;rw[cj,fy,uZ q a];refine St.i g (by rw[dM,hlen];omega) (λB A=>fin B ?_);rw[u]at A;exact C _ B (aJe c) (nE.leaf c) A
def aDB(h:Sep E L w):Calls P xD #[] w (cA λv w'=>∃t:Nat,v=Pb t/\Sep E (dH 3 t (RT.zero 3)++L) w'):=by
 apply Z8;refine Al.i h (λt a h1=>⟨t,rfl,?_⟩);rw[Oz,<- Oy];exact h1
def lS(n:Nat)(t a:RT n)(p:Nat):Prop:=∀q,RT.look n a q=if q%16^(n+1)=p%16^(n+1)then none else RT.look n t q
def jP{m:Nat}(t:RT (m+1))(d:Nat):RT (m+1):=List.set (t:bA (bW (Nat×RT m))) d none
def oN(t:RT 0)(d:Nat):RT 0:=List.set (t:bA (bW Nat)) d none
def OD{m d e:Nat}{t:RT (m+1)}(b:RT.ok (m+1) t)(c:d<16):gM (jP t d) e=if e=d then none else gM t e:=by
 obtain⟨ks,rfl⟩:∃ks:bA (bW (Nat×RT m)),ks=t:=⟨t,rfl⟩
 have hl:ks.length=16:=b.1;show(ks.set d none).getD e none=if e=d then none else ks.getD e none
 rw[dT,hd,dT];by_cases h:d=e;·rw[bL h,eJ,bL h.symm];rfl
 ·rw[bJ h,bJ (λa=>h a.symm)]
def aIV{m d:Nat}{t:RT (m+1)}(a:RT.ok (m+1) t)(e:d<16):RT.ok (m+1) (jP t d):=by
 have hl:List.length (t:bA (bW (Nat×RT m)))=16:=a.1;refine⟨by show(List.set (t:bA (bW (Nat×RT m))) d none).length=16;exact dM.trans hl,λi b c h=>?_⟩;have h:gM (jP t d) i=some (b,c):=h;rw[OD a e]at h;split at h;·cases h
 ·exact a.2 i b c h
def aIW{t:RT 0}{d:Nat}(a:RT.ok 0 t):RT.ok 0 (oN t d):=by
 show(List.set (t:bA (bW Nat)) d none).length=16;exact dM.trans a
def lS.leaf{p:Nat}{t:RT 0}(b:RT.ok 0 t):lS 0 t (oN t (p%16)) p:=by
 obtain⟨ws,rfl⟩:∃ws:bA (bW Nat),ws=t:=⟨t,rfl⟩
 have hl:ws.length=16:=b;intro q;show(ws.set (p%16) none).getD (q%16) none=if q%16^1=p%16^1 then none else ws.getD (q%16) none
 rw[Nat.pow_one,dT,hd,dT];have:=kL p (by decide:0<16);by_cases h:p%16=q%16;·rw[bL h,eJ,bL h.symm];rfl
 ·rw[bJ h,bJ (λa=>h a.symm)]
def lS.up{m d b b0 p:Nat}{t:RT (m+1)}{s s':RT m}(g:RT.ok (m+1) t)(f:p/16^(m+1)%16=d)(hk:gM t d=some (b0,s))(h:lS m s s' p):lS (m+1) t (ha t d (b,s')) p:=by
 have c:d<16:=by omega
 intro q;rw[nD,nD,x9 g c];by_cases a:q/16^(m+1)%16=d
 ·rw[bL a];show RT.look m s' q=_;rw[h q];by_cases h2:q%16^(m+1)=p%16^(m+1);·rw[bL h2,bL (eG.2 ⟨bu,h2⟩)]
  ·rw[bJ h2,bJ (λe=>h2 (eG.1 e).2),a,hk]
 ·rw[bJ a,bJ (λe=>a (by rw[(eG.1 e).1];exact f))]
def lS.gone{m d b0 p:Nat}{t:RT (m+1)}{s s':RT m}(g:RT.ok (m+1) t)(f:p/16^(m+1)%16=d)(hk:gM t d=some (b0,s))(h:lS m s s' p)(c:∀q,RT.look m s' q=none):lS (m+1) t (jP t d) p:=by
 have b:d<16:=by omega
 intro q;rw[nD,nD,OD g b];by_cases a:q/16^(m+1)%16=d
 ·rw[bL a];have h1:=h q;rw[c q]at h1;by_cases h2:q%16^(m+1)=p%16^(m+1);·rw[bL (eG.2 ⟨bu,h2⟩)]
  ·rw[bJ h2]at h1;rw[bJ (λe=>h2 (eG.1 e).2),a,hk];exact h1
 ·rw[bJ a,bJ (λe=>a (by rw[(eG.1 e).1];exact f))]
def aHc(l:bA Bool){d:Nat}(hl:l.length<=16):(BitVec.ofInt 16 (hasB l:Int) &&& ~~~ BitVec.ofInt 16 ((2^d:Nat):Int)).toNat=hasB (l.set d false):=by
 apply vX;intro i;rw[ya,wc,Nat.testBit_and,BitVec.testBit_toNat,BitVec.testBit_toNat,BitVec.getLsbD_not,pX,pX,BitVec.getLsbD_ofNat,BitVec.getLsbD_ofNat,ya,rI,dT,dT,hd];by_cases a:i<16
 ·by_cases h:d=i;·subst h;simp[a];split<;>simp
  ·simp[h,a]
 ·rw[di a,g2 bu];simp;split;·split<;>simp
  ·rfl
def u0{l:bA Bool}{d:Nat}(hl:l.length=16)(a:d<16):wu .u16 (hasB l:Int) (IntKind.u16.wrap (1*2^(min (u64.wrap ((d:Nat):Int)).toNat 16)))=(hasB (l.set d false):Int):=by
 have h2:(2:Nat)^d<65536:=by
  have:(2:Nat)^d<=2^15:=tu bN bu;omega
 have e:IntKind.u16.wrap (1*2^(min (u64.wrap ((d:Nat):Int)).toNat 16))=((2^d:Nat):Int):=by
  rw[ds,dz,show min d 16=d by omega,Int.one_mul];have:((2:Int)^d)=((2^d:Nat):Int):=by rw[Int.natCast_pow];rfl
  rw[this];exact nC h2
 rw[e];show IntKind.u16.wrap ((BitVec.ofInt 16 (hasB l:Int) &&& ~~~ BitVec.ofInt 16 ((2^d:Nat):Int)).toNat:Int)=_;rw[aHc l bu];have:=oI (l.set d false);rw[dM,hl]at this;exact nC this
def aJp{m d:Nat}{t:RT (m+1)}(e:RT.ok (m+1) t)(c:d<16):∃l:bA Bool,l.length=16/\(RT.vs (m+1) t)[32]?=some (.int .u16 (hasB l:Int))/\
  (((RT.vs (m+1) t).set d (.pointer none)).set (16+d) (.int .u64 0)).set 32 (.int .u16 (hasB (l.set d false):Int))=RT.vs (m+1) (jP t d):=by
 obtain⟨ks,rfl⟩:∃ks:bA (bW (Nat×RT m)),ks=t:=⟨t,rfl⟩
 have hl:ks.length=16:=e.1;refine⟨ks.map Option.isSome,by rw[en];exact hl,oM (by rw[en];exact hl) n0,?_⟩;show(((gu (ks.map (Option.map Prod.fst)) dB _).set d _).set (16+d) _).set 32 _=gu ((ks.set d none).map (Option.map Prod.fst)) dB (hasB ((ks.set d none).map Option.isSome));rw[hL,hL];rw[show Option.isSome (none:bW (Nat×RT m))=false from rfl];generalize hasB ((ks.map Option.isSome).set d false)=H;unfold gu mm m0;have a:((ks.map (Option.map Prod.fst)).map λk=>Value.pointer (k.map λb=>⟨b,0,none⟩)).length=16:=by simp[hl]
 rw[rG _ _ (by rw[a];exact c),hL];rw[ju (16+d) _ (by rw[dM,a];omega),dM,a,tt];rw[rG d _ (by simp[dB];omega)];have e0:(dB.map λx=>Value.int .u64 ((x.getD 0:Nat):Int)).set d (.int .u64 0)=dB.map λx=>Value.int .u64 ((x.getD 0:Nat):Int):=by
  rw[show(dB.map λx=>Value.int .u64 ((x.getD 0:Nat):Int))=List.replicate 16 (Value.int .u64 0) by simp[dB]];exact List.set_replicate_self
 rw[e0];rw[ju 32 _ (by rw[dM,a];decide),dM,a];rw[ju _ _ (by simp[dB])];congr 2
def aJq{d:Nat}{t:RT 0}(e:RT.ok 0 t)(c:d<16):∃l:bA Bool,l.length=16/\(RT.vs 0 t)[32]?=some (.int .u16 (hasB l:Int))/\
  ((RT.vs 0 t).set (16+d) (.int .u64 0)).set 32 (.int .u16 (hasB (l.set d false):Int))=RT.vs 0 (oN t d):=by
 obtain⟨ws,rfl⟩:∃ws:bA (bW Nat),ws=t:=⟨t,rfl⟩
 have hl:ws.length=16:=e;refine⟨ws.map Option.isSome,by rw[en];exact hl,oM n0 hl,?_⟩;show((gu dB ws _).set (16+d) _).set 32 _=gu dB (ws.set d none) (hasB ((ws.set d none).map Option.isSome));rw[hL];rw[show Option.isSome (none:bW Nat)=false from rfl];generalize hasB ((ws.map Option.isSome).set d false)=H;unfold gu mm m0;have a:(dB.map λk=>Value.pointer (k.map λb=>⟨b,0,none⟩)).length=16:=by simp[dB]
 rw[ju (16+d) _ (by rw[a];omega),a,tt,rG d _ (by rw[en,hl];exact c)];rw[ju 32 _ (by rw[a];decide),a,ju _ _ (by rw[dM,en,hl];decide),dM,en,hl,hL];rfl
def OE{m:Nat}{t:RT m}(a:RT.ok m t):(RT.vs m t).length=33:=by
 cases m with
 |zero=>
  obtain⟨ws,rfl⟩:∃ws:bA (bW Nat),ws=t:=⟨t,rfl⟩
  have hl:ws.length=16:=a;show(gu dB ws _).length=33;simp[gu,mm,m0,dB,hl]
 |succ m=>
  obtain⟨ks,rfl⟩:∃ks:bA (bW (Nat×RT m)),ks=t:=⟨t,rfl⟩
  have hl:ks.length=16:=a.1;show(gu (ks.map (Option.map Prod.fst)) dB _).length=33;simp[gu,mm,m0,dB,hl]
def Dx:∀ {l:bA Bool},hasB l=0->∀i,l.getD i false=false
 |[],_,_=>by simp
 |b::r,h,i=>by
  simp only[hasB]at h;cases b with
  |true=>simp at h
  |false=>
   have:=Dx (l:=r) (by simp at h;omega);cases i with
   |zero=>rfl
   |succ i=>exact this i
def aKm{m:Nat}{t:RT m}(a:RT.ok m t):∃h:Nat,h<65536/\(RT.vs m t)[32]?=some (.int .u16 (h:Int))/\(h=0->∀q,RT.look m t q=none):=by
 cases m with
 |zero=>
  obtain⟨ws,rfl⟩:∃ws:bA (bW Nat),ws=t:=⟨t,rfl⟩
  have hl:ws.length=16:=a;have hb:=oI (ws.map Option.isSome);rw[en,hl]at hb;refine⟨hasB (ws.map Option.isSome),hb,oM n0 hl,λh q=>?_⟩;have h1:=Dx h (q%16);show ws.getD (q%16) none=none;rw[dT,eI]at h1;rw[dT];cases h2:ws[q%16]? with
  |none=>rfl
  |some y=>rw[h2]at h1;cases y with
   |none=>rfl
   |some z=>cases h1
 |succ m=>
  obtain⟨ks,rfl⟩:∃ks:bA (bW (Nat×RT m)),ks=t:=⟨t,rfl⟩
  have hl:ks.length=16:=a.1;have hb:=oI (ks.map Option.isSome);rw[en,hl]at hb;refine⟨hasB (ks.map Option.isSome),hb,oM (by rw[en];exact hl) n0,λh q=>?_⟩;have h1:=Dx h (q/16^(m+1)%16);refine(nD (show RT (m+1)from ks) q).trans ?_;have e:gM (show RT (m+1)from ks) (q/16^(m+1)%16)=ks.getD (q/16^(m+1)%16) none:=rfl;rw[dT,eI]at h1;rw[e,dT];cases h2:ks[q/16^(m+1)%16]? with
  |none=>rfl
  |some y=>rw[h2]at h1;cases y with
   |none=>rfl
   |some z=>cases h1
def aIh{m b d:Nat}{t:RT (m+1)}{w:bH}(e:RT.ok (m+1) t)(f:d<16)(h:Sep E (bC b (RT.vs (m+1) (jP t d))::(j5 m (t:bA (bW (Nat×RT m))) d++L)) w):Sep E (dH (m+1) b (jP t d)++L) w:=by
 obtain⟨ks,rfl⟩:∃ks:bA (bW (Nat×RT m)),ks=t:=⟨t,rfl⟩
 have hl:ks.length=16:=e.1;have hk:(ks.set d none)[d]?=some none:=iZ bu;have a:(ks.set d none).take d=ks.take d:=by rw[Ti (ep d)]
 have c:(ks.set d none).drop (d+1)=ks.drop (d+1):=by rw[Tj bu]
 show Sep E (bC b (RT.vs (m+1) (jP ks d))::(List.flatMap (e1 m) (ks.set d none)++L)) w;rw[se hk,a,c];exact h
def OF:∀(m:Nat) {b p:Nat} {t:RT m} {L:cv} {w:bH},m<=3->RT.ok m t->(RT.look m t p).isSome=true->Sep E (dH m b t++L) w->
  Calls P Ch #[Pb b,Iv (p:Nat),Iv ((3-m:Nat):Int)] w (cA λv w'=>v=.tuple #[]/\∃G:RT m,RT.ok m G/\lS m t G p/\Sep E (dH m b G++L) w')
 |0,b,p,t,L,w,_,c,_,h=>by
  apply Oo;unfold Dq qE qQ qb qg;refine use (sT (p:=p) (l:=3) bu w) ?_;rintro _ _ ⟨rfl,rfl⟩;have a:p%16<16:=kL _ bN;rw[show p/16^(3-3)%16=p%16 by rw[jd,zr,zE]];refine⟨_,rfl,λw'=>Sep E (dH 0 b t++L) w',bF rfl h,?_⟩;rintro _ A h1;have h1:Sep E (bC b (RT.vs 0 t)::L) A:=h1;have hlen:=OE c;obtain⟨l,hl,u,x⟩:=aJq c a;refine⟨_,rfl,_,rfl,⟨bu,bu⟩,?_⟩;rw[cj,cj,dz,show 0+16+p%16*1=16+p%16 by omega];refine St.i h1 (by rw[hlen];omega) (λw2 h2=>⟨_,rfl,?_⟩);have r:w2.cell? ⟨b,32,none⟩=some (.int .u16 (hasB l:Int)):=by rw[h2.cell 32,ja bu,u]
  refine⟨_,by rw[cj,fy];exact r,by rw[ds];omega,_,rfl,?_⟩;dsimp only;rw[cj,fy,u0 hl a];refine St.i h2 (by rw[dM,hlen];omega) (λT k=>⟨rfl,oN t (p%16),aIW c,lS.leaf c,?_⟩);rw[x]at k;exact k
 |m+1,b,p,t,L,w,hm,c,hp,h=>by
  apply Oo;unfold Dq qE qQ qb qg;refine use (sT (p:=p) (l:=3-(m+1)) bu w) ?_;rintro _ _ ⟨rfl,rfl⟩;have M:3-(3-(m+1))=m+1:=by omega
  rw[M];obtain⟨d,z⟩:∃d,p/16^(m+1)%16=d:=⟨_,rfl⟩
  rw[z];have a:d<16:=by omega
  have o:=nD t p;rw[z]at o;cases hk:gM t d with
  |none=>rw[o,hk]at hp;cases hp
  |some y=>
  obtain⟨f,s⟩:=y;rw[hk]at o;rw[o]at hp;have K:=x8 c hk;have F:=uY c a;rw[hk]at F;have n:=OB c a h;rw[hk]at n;have hlen:=OE c;obtain⟨l,hl,u,x⟩:=aJp c a;refine⟨_,rfl,λw'=>∃s',lS m s s' p/\(∀q,RT.look m s' q=none)/\Sep E (bC b ((RT.vs (m+1) t).set d (.pointer none))::(j5 m (t:bA (bW (Nat×RT m))) d++L)) w',bT (by rw[gE];omega) ?_,?_⟩
  ·refine⟨_,rfl,_,rfl,⟨bu,bu⟩,?_⟩;rw[cj,cj,dz,show 0+0+d*1=d by omega];refine⟨some ⟨f,0,none⟩,by rw[n.cell d,F];rfl,?_⟩;have H:=n.perm (L':=dH m f s++(bC b (RT.vs (m+1) t)::(j5 m (t:bA (bW (Nat×RT m))) d++L))) jc.symm;have N:i64.wrap (((3-(m+1):Nat):Int)+1)=((3-m:Nat):Int):=by rw[de];omega
   rw[N];refine use (OF m (b:=f) (p:=p) (t:=s) bu K hp H) ?_;rintro _ A ⟨rfl,s',D,g,h1⟩;have B:Sep E (bC b (RT.vs (m+1) t)::(dH m f s'++(j5 m (t:bA (bW (Nat×RT m))) d++L))) A:=h1.perm jc;refine⟨rfl,_,rfl,_,rfl,⟨bu,bu⟩,?_⟩;rw[cj,cj,dz,show 0+0+d*1=d by omega];refine⟨some ⟨f,0,none⟩,by rw[B.cell d,F];rfl,_,rfl,?_⟩;obtain⟨W,U,I,J⟩:=aKm D;have r:=pF (j:=32) h1;rw[I]at r;refine⟨_,by rw[cj,fy];exact r,iz (λV=>?_) (λhe=>?_)⟩
   ·refine⟨rfl,ha t d (f,s'),Dv c a D,lS.up c z hk g,OA c a ?_⟩;have O:RT.vs (m+1) (ha t d (f,s'))=RT.vs (m+1) t:=by
     rw[Ox (s':=s)];have Q:ha t d (f,s)=t:=by
      obtain⟨ks,rfl⟩:∃ks:bA (bW (Nat×RT m)),ks=t:=⟨t,rfl⟩
      show ks.set d (some (f,s))=ks;have C:ks.getD d none=some (f,s):=hk;apply hg;intro i;rw[hd];split
      ·next e=>
       subst e;have S:ks.length=16:=c.1;rw[eJ];rw[dT,dN]at C;rw[dN];exact eK some C.symm
      ·rfl
     rw[Q]
    rw[O];exact h1
   ·refine⟨_,rfl,_,rfl,⟨bu,bu⟩,?_⟩;rw[cj,cj,dz,show 0+0+d*1=d by omega];refine St.i B (by rw[hlen];omega) (λw2 h2=>⟨s',g,J bu,?_⟩);have k:=h2.perm (L':=dH m f s'++(bC b ((RT.vs (m+1) t).set d (.pointer none))::(j5 m (t:bA (bW (Nat×RT m))) d++L))) jc.symm;exact(k.perm lZ).left
  ·rintro _ A ⟨s',g,R,h1⟩;refine⟨_,rfl,_,rfl,⟨bu,bu⟩,?_⟩;rw[cj,cj,dz,show 0+16+d*1=16+d by omega];refine St.i h1 (by rw[dM,hlen];omega) (λw2 h2=>⟨_,rfl,?_⟩);have r:w2.cell? ⟨b,32,none⟩=some (.int .u16 (hasB l:Int)):=by rw[h2.cell 32,ja bu,ja bu,u]
   refine⟨_,by rw[cj,fy];exact r,by rw[ds];omega,_,rfl,?_⟩;dsimp only;rw[cj,fy,u0 hl a];refine St.i h2 (by rw[dM,dM,hlen];omega) (λT k=>⟨rfl,jP t d,aIV c a,lS.gone c z hk g R,?_⟩);rw[x]at k;exact aIh c a k
def aIP{t p:Nat}{T:RT 3}(a:RT.ok 3 T)(hp:p<65536)(f:(RT.look 3 T p).isSome=true)(h:Sep E (dH 3 t T++L) w):Calls P BM #[Pb t,Iv (p:Nat)] w
  (cA λv w'=>v=.bool true/\∃T':RT 3,RT.ok 3 T'/\lS 3 T T' p/\Sep E (dH 3 t T'++L) w'):=by
 apply aq2;unfold NR qE zh;refine use (Du a h) ?_;rintro _ k ⟨rfl,h1⟩;have e:il T (p:Int)=RT.look 3 T p:=by unfold il;rw[eJ,dz]
 have c:(!(il T (p:Int)).isSome)=false:=by rw[e,f];rfl
 generalize il T (p:Int)=g at c;refine⟨_,_,rfl,bF c ⟨_,rfl,?_⟩⟩;dsimp only;rw[cj];have d:=OF 3 (b:=t) (p:=p) (t:=T) bu a f h1;have e0:((3-3:Nat):Int)=0:=rfl;rw[e0]at d;refine use d ?_;rintro _ w2 ⟨rfl,T',h2,i,j⟩;exact⟨rfl,rfl,T',h2,i,j⟩
end Go.Mp
namespace Go.Kt
open Go
def G.vs(g:G):bA bE:=[Iv g.up,.bool g.live]
def G.kR(g:G):g.vs.length=2:=rfl
end Go.Kt
namespace Go.Mp
open Go Go.Vc Go.Sp Go.Proofs Go.Kt
variable{E:Env}{L:cv}{w W:bH}
def dR(b:Nat)(l:bA G):Asn:=fe λs:Sl=>cG (s.n=l.length) (star (bC b [Sv s]) (bw s 2 (bP G.vs l)))
def dR.get{b:Nat}{l:bA G}(h:Sep E (dR b l::L) w):∃s:Sl,s.n=l.length/\Sep E (bC b [Sv s]::bw s 2 (bP G.vs l)::L) w:=by
 obtain⟨s,h⟩:=Sep.ex.1 h;obtain⟨hn,h⟩:=Sep.cG.1 h;exact⟨s,hn,Sep.star.1 h⟩
def dR.mk{b:Nat}{l:bA G}{s:Sl}(hn:s.n=l.length)(h:Sep E (bC b [Sv s]::bw s 2 (bP G.vs l)::L) w):Sep E (dR b l::L) w:=
 Sep.ex.2 ⟨s,Sep.cG.2 ⟨hn,Sep.star.2 h⟩⟩
def sU{s:Sl}{l:bA G}{i:Int}{f:Addr->Prop}(q:Nat)(h:Sep E L w)(e:L[q]?=some (bw s 2 (bP G.vs l)))(hn:s.n=l.length){k:Nat}(d:i=k){x:G}(hx:l[k]?=some x)(g:∀b,s.p=some ⟨b,0,none⟩->(∀j,j<2->w.cell? ⟨b,k*2+j,none⟩=(x.vs)[j]?)->f ⟨b,k*2,none⟩):cM s.p s.n i 2 f:=by
 have m:=(c4.1 hx).1;subst d;refine bw.el q h e bu bu (λb hp a=>?_);rw[dz]at a ⊢;exact g b hp (λj c=>by rw[a j c,sJ G.kR hx j c])
def kB{b:Nat}{l:bA G}{g:Int}{q:Nat}(h:Sep E L w)(d:L[q]?=some (dR b l)):Calls P j8 #[Pb b,Iv g] w (cA λv w'=>v=.bool (dt l g)/\w'=w):=by
 apply VX;unfold KB qK qW qy;obtain⟨s,hn,h1⟩:=dR.get (h.fr q d);refine h4 (λa=>?_) (λa=>?_)
 ·refine⟨_,rfl,s,h1.cell 0,?_⟩;refine cX (λf=>?_) (λe=>?_)
  ·obtain⟨n,rfl⟩:∃n:Nat,g=n:=⟨g.toNat,bu⟩
   obtain⟨x,hx⟩:∃x,l[n]?=some x:=⟨_,dN⟩
   refine⟨_,rfl,s,h1.cell 0,sU 1 h1 rfl hn rfl hx (λi _ c=>⟨x.live,?_,?_,rfl⟩)⟩;·rw[cj];exact c 1 bN
   ·unfold dt;rw[dz,hx,dE bu];rfl
  ·refine⟨?_,rfl⟩;unfold dt;rw[g2 bu];simp
 ·refine⟨?_,rfl⟩;unfold dt;rw[di bu];rfl
def aGI{b:Nat}{l:bA G}{g:Int}{q:Nat}(h:Sep E L w)(c:L[q]?=some (dR b l)):Calls P IE #[Pb b,Iv g] w (cA λv w'=>v=Iv (o9 l g)/\w'=w):=by
 apply Wn;unfold KO qF qK qL qW;refine use (kB h c) ?_;rintro _ i ⟨rfl,rfl⟩;refine⟨_,rfl,cw (λa=>⟨?_,rfl⟩) (λa=>?_)⟩
 ·have:dt l g=false:=by simpa using a
  unfold o9;rw[this];rfl
 ·have hl:dt l g=true:=by simpa using a
  obtain⟨n,rfl,x,hx,e⟩:=iR.1 hl;obtain⟨s,hn,h1⟩:=dR.get (h.fr q c);refine⟨_,rfl,s,h1.cell 0,sU 1 h1 rfl hn rfl hx (λf _ d=>⟨x.up,?_,?_,rfl⟩)⟩;·rw[cj];exact d 0 bN
  ·unfold o9;rw[bL hl,dz,hx];rfl
def OG{l:bA G}{g:Nat}(hl:dt l g=true):dp l g=(chain l g).map Int.ofNat:=by unfold dp;rw[bL hl,dz]
def OH{b d c:Nat}{l:bA G}{g:Int}(hw:WF l):De P E sq #[Pb d,Pb c]
  (star (bC d [Pb b]) (star (bC c [Iv g]) (dR b l))) (star (bC d [Pb b]) (star (fe λx:Int=>bC c [Iv x]) (dR b l))) ((dp l g).map (Value.int .i64)):=by
 intro U J X M L W h;refine Calls.mono (R:=cA λv i=>v=.tuple #[]/\(Sep E (J ((dp l g).map (Value.int .i64)).length::star (bC d [Pb b]) (star (fe λx:Int=>bC c [Iv x]) (dR b l))::L) i\/
  ∃k,k<((dp l g).map (Value.int .i64)).length/\Sep E (X k::star (bC d [Pb b]) (star (fe λx:Int=>bC c [Iv x]) (dR b l))::L) i)) ?_ (λe i he=>?_)
 rotate_left
 ·obtain⟨v,rfl,rfl,he⟩:=he;exact⟨⟨_,rfl⟩,he⟩
 have pack:∀ {A:Asn} {x:Int} {i:bH},Sep E (A::bC d [Pb b]::bC c [Iv x]::dR b l::L) i->
   Sep E (A::star (bC d [Pb b]) (star (fe λx:Int=>bC c [Iv x]) (dR b l))::L) i:=by
  intro A x i t;have h1:Sep E (fe (λx:Int=>bC c [Iv x])::dR b l::A::bC d [Pb b]::L) i:=Sep.ex.2 ⟨x,t.ro 4 [2,3,0,1] rfl⟩;have h2:=(Sep.star.2 h1).ro 3 [2,0,1] rfl;exact(Sep.star.2 h2).swap
 have h1:Sep E (bC d [Pb b]::bC c [Iv g]::dR b l::J 0::L) W:=by
  have h2:=Sep.star.1 h.swap;have p:=(Sep.star.1 (h2.swap))
  exact p.ro 4 [2,0,1,3] rfl
 show Calls P sq #[.func (.yield U) #[] #[],Pb d,Pb c] W _;apply Wk;unfold CX qD qF qK qL qW qb qd;refine⟨_,h1.cell 0,_,h1.cellAt 1 rfl 0,?_⟩;refine use (kB (q:=2) h1 rfl) ?_;rintro _ af ⟨rfl,rfl⟩;refine⟨_,rfl,?_⟩;rw[en];cases hl:dt l g with
 |false=>
  refine⟨λw'=>w'=af,λ_=>0,rfl,?_⟩;rintro _ w2 rfl;refine dG ⟨rfl,.inl ?_⟩;have:dp l g= []:=by unfold dp;rw[hl];rfl
  rw[this];exact pack (h1.ro 4 [3,0,1,2] rfl)
 |true=>
  obtain⟨n,rfl,x,hx,ah⟩:=iR.1 hl;have Q:=(c4.1 hx).1;rw[OG hl];rw[en];rw[OG hl]at M;refine⟨λw'=>∃(k:Nat) (x:Int),((x= -1/\k=(chain l n).length)\/∃m:Nat,x=m/\m<l.length/\(chain l n).drop k=chain l m)/\Sep E (bC d [Pb b]::bC c [Iv x]::dR b l::J k::L) w',
   λw'=>match w'.cell? ⟨c,0,none⟩with|some (.int _ x)=>(x+1).toNat|_=>0,⟨0,n,.inr ⟨n,rfl,Q,rfl⟩,h1⟩,?_⟩
  rintro _ w2 ⟨k,x,T,h2⟩;refine eB ⟨x,h2.cellAt 1 rfl 0,?_⟩;rcases T with⟨rfl,rfl⟩|⟨m,rfl,hm,C⟩
  ·refine hD (λt=>absurd t bN) (λ_=>⟨rfl,.inl (pack (h2.ro 4 [3,0,1,2] rfl))⟩)
  ·refine hD (λ_=>?_) (λt=>absurd t bu);refine⟨_,h2.cellAt 1 rfl 0,U,rfl,?_⟩;obtain⟨r,hr⟩:=Gx l m;have hk:(chain l n)[k]?=some m:=by
    have:((chain l n).drop k)[0]?=some m:=by rw[C,hr];rfl
    rwa[pY,k1]at this
   have O:(((chain l n).map Int.ofNat).map (Value.int .i64))[k]?=some (Iv (m:Int)):=by
    rw[eI,eI,hk];rfl
   obtain⟨fn,tmps,I,body,F,u⟩:=M _ k _ _ O (h2.ro 4 [3,0,1,2] rfl);refine⟨fn,tmps,I,body,F,u.mono λe ag he=>?_⟩;rcases he with⟨rfl,p⟩|⟨rfl,p⟩
   ·refine⟨true,rfl,dG ?_⟩;have p:Sep E (bC d [Pb b]::bC c [Iv (m:Int)]::dR b l::J (k+1)::L) ag:=p.ro 4 [1,2,3,0] rfl;refine Dr.i p (λw z=>?_);obtain⟨s,hn,K⟩:=dR.get (z.fr 2 rfl);obtain⟨y,o⟩:∃y,l[m]?=some y:=⟨_,dL hm⟩
    have fin:∀ {w':bH},w'=w->St ⟨c,0,none⟩ (Iv y.up) (λD=>(([]:bA Nat)= []/\((∃(k:Nat) (x:Int),((x= -1/\k=(chain l n).length)\/∃m:Nat,x=m/\m<l.length/\(chain l n).drop k=chain l m)/\Sep E (bC d [Pb b]::bC c [Iv x]::dR b l::J k::L) D)/\
      (match D.cell? ⟨c,0,none⟩with|some (.int _ x)=>(x+1).toNat|_=>0)<(match w2.cell? ⟨c,0,none⟩with|some (.int _ x)=>(x+1).toNat|_=>0)))) w':=by
     rintro _ rfl;refine St.i (z.fr 1 rfl) (by show 0<1;decide) (λV B=>?_);have B:Sep E (bC c [Iv y.up]::bC d [Pb b]::dR b l::J (k+1)::L) V:=B;have Z:V.cell? ⟨c,0,none⟩=some (Iv y.up):=B.cell 0;have aa:w2.cell? ⟨c,0,none⟩=some (Iv (m:Int)):=h2.cellAt 1 rfl 0;rw[Z,aa];have N:(chain l n).drop (k+1)=r:=by rw[<- p1,C,hr];rfl
     refine⟨rfl,⟨k+1,y.up,?_,B.swap⟩,?_⟩
     ·rcases kZ m with j|j
      ·subst j;rw[hw.root]at o;have:=cU o;subst this;rw[tK]at hr C;refine .inl ⟨rfl,?_⟩;have:=eK List.length C;rw[nO]at this;simp at this;omega
      ·have hu:=hw.up m y o j;have S:=rN hw o j;refine .inr ⟨y.up.toNat,bu,bu,?_⟩;rw[N];rw[hr]at S;exact(List.cons.inj S).2
     ·rcases kZ m with j|j
      ·subst j;rw[hw.root]at o;have:=cU o;subst this;decide
      ·have hu:=hw.up m y o j;show(y.up+1).toNat<((m:Int)+1).toNat;omega
    have H:w.cell? ⟨d,0,none⟩=some (Pb b):=z.cell 0;have a3:w.cell? ⟨c,0,none⟩=some (Iv (m:Int)):=z.cellAt 1 rfl 0;have Y:w.cell? (Addr.add ⟨b,0,none⟩ 0)=some (Sv s):=by rw[cj];exact K.cell 0
    have el:∀ {f:Addr->Prop},(∀a,w.cell? (a.add 0)=some (Iv y.up)->f a)->cM s.p s.n (m:Int) 2 f:=λae=>sU 1 K rfl hn rfl o (λai _ ad=>ae _ (by rw[cj];exact ad 0 bN));repeat' first
     |exact trivial
     |exact fin rfl
     |exact⟨_,H,?_⟩
     |refine⟨_,H,?_⟩
     |refine⟨_,a3,?_⟩
     |refine⟨s,Y,?_⟩
     |refine⟨_,rfl,?_⟩
     |refine el (λa ab=>?_)
     |refine⟨_,ab,?_⟩
     |refine And.intro ?_ ?_
   ·refine⟨false,rfl,eB ⟨rfl,.inr ⟨k,?_,?_⟩⟩⟩;·exact(c4.1 hk).1
    ·exact pack p
end Go.Mp
