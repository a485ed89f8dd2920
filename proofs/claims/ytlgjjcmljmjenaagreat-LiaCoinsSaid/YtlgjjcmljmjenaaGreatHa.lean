/- At every input the call answers true and leaves its arguments as they were; no conditions. -/
import Derived.Test.YtlgjjcmljmjenaaGreatFa
import Derived.Test.YtlgjjcmljmjenaaGreatFb
set_option linter.unusedSimpArgs false
set_option linter.unusedVariables false
set_option maxRecDepth 100000
set_option maxHeartbeats 4000000
namespace Go.Proofs.YtlgjjcmljmjenaaGreat
open Go Go.Abs Go.Proofs.Tryz
abbrev gI(neg:Bool)(mag:List Nat):TV:=.agg [.lit (.bool neg),eN mag]
abbrev gS(l:List Nat)(neg:Bool):TV:=.agg [eN l,.lit (.bool neg)]
abbrev gZ(l:List Nat):TV:=.agg [eN l]
def IsI(neg:Bool)(mag:List Nat):Prop:=IsN mag/\(mag≠[]\/neg=false)
instance {neg:Bool} {mag:List Nat}:Decidable (IsI neg mag):=by unfold IsI;exact inferInstance
theorem Zc{H:QE}{a b:C}{x y:T}(h1:FzC H a x)(h2:FzC H b y):FzA H (.agg [a,b]) (.agg [x,y]):=.agg rfl fun j h h'=>by
 match j,h,h' with
 |0,_,_=>exact h1
 |1,_,_=>exact h2
 |j+2,h,_=>simp at h;omega
theorem zjF(l:List Nat):Q7 prog 63 [gZ l] (tB (decide (l.length=0))):=by
 refine QH QB call63 func63 rfl ntmps63 results63 (by simp) (by decide) ?_;simp only[go_sem];rw[waG];omega
theorem zj7(neg:Bool)(mag:List Nat)(hl:mag.length<30000000000000):Q7 prog 74 [gI neg mag] (tB (decide (IsI neg mag))):=by
 refine QH QB call74 func74 rfl ntmps74 results74 (by simp) (by decide) ?_;simp only[go_sem];refine Q2 (zk9 mag hl) rfl ?_;by_cases h:IsN mag
 .cases mag with
  |nil =>
   cases neg
   .simp only[go_sem,h]
    simp[IsI,h]
   .simp only[go_sem,h]
    simp[IsI]
  |cons x l =>
   have hp:(0:Int)<(l.length:Int)+1:=by omega
   simp only[go_sem,h,hp];simp[IsI,h]
 .simp only[go_sem,h]
  simp[IsI,h]
theorem zj8(neg:Bool)(mag:List Nat)(hl:mag.length<30000000000000):Q7 prog 62 [gI neg mag] (if IsI neg mag then gS mag neg else gS [] false):=by
 refine QH QB call62 func62 rfl ntmps62 results62 (by simp) (by decide) ?_;simp only[go_sem];refine Q2 (zj7 neg mag hl) rfl ?_;by_cases h:IsI neg mag
 .rw[Qc h]
  simp only[go_sem,h];exact Zc .t .t
 .rw[Qb h]
  simp only[go_sem,h];exact Zc .weak .t
theorem zcz(l:List Nat)(neg:Bool):Q7 prog 123 [gS l neg] (gI (neg&&decide (l≠[])) l):=by
 refine QH QB call123 func123 rfl ntmps123 results123 (by simp) (by decide) ?_;simp only[go_sem];refine Q3 0 rfl ?_;cases neg with
 |false =>
  simp only[go_sem];exact Zc .t .t
 |true =>
  simp only[go_sem];refine Q2 (zjF l) rfl ?_;have e:(!decide (l.length=0))=decide (¬l=[]):=by cases l<;>simp
  simp only[go_sem,e];exact Zc .t .t
theorem w_Of(n:Int)(h1 : -9223372036854775808<=n)(h2:n<9223372036854775808):Q7 prog 106 [tI .i64 n] (gI (decide (n<0)) (dig n.natAbs)):=by
 refine QH QB call106 func106 rfl ntmps106 results106 (by simp) (by decide) ?_;simp only[go_sem];have Gw:n.natAbs<18446744073709551616:=by omega
 have XG:=zi8 n.natAbs Gw;have Vf:(dig n.natAbs=[])↔n=0:=by rw[Yc];omega
 refine QI (fun hn=>?_) (fun hn=>?_)
 .have hw:IntKind.wrap .u64 (0-IntKind.wrap .u64 n)=(n.natAbs:Int):=by
   unfold IntKind.wrap;simp[IntKind.signed,IntKind.bits];omega
  have Xg:=zcz (dig n.natAbs) true;rw[show(true&&decide (dig n.natAbs≠[]))=true by simp[Vf];omega]at Xg;simp only[go_sem,hn,hw];refine Q2 XG rfl ?_;simp only[go_sem,hn];refine Q2 Xg rfl ?_;simp only[go_sem];exact Zc .t .t
 .have hw:IntKind.wrap .u64 n=(n.natAbs:Int):=by rw[QC (by omega) (by omega)];omega
  have Xg:=zcz (dig n.natAbs) false;rw[show(false&&decide (dig n.natAbs≠[]))=false from rfl]at Xg;simp only[go_sem,hn,hw];refine Q2 XG rfl ?_;simp only[go_sem,hn];refine Q2 Xg rfl ?_;simp only[go_sem];exact Zc .t .t
def iv(neg:Bool)(mag:List Nat):Int:=if IsI neg mag then(if neg then -(val mag:Int)else val mag)else 0
theorem zvV{neg:Bool}{mag:List Nat}(h:IsI neg mag):(iv neg mag).sign=if mag.length=0 then 0 else if neg then -1 else 1:=by
 unfold iv;rw[Qc h];by_cases h0:mag.length=0
 .have:mag=[]:=wbd.1 h0
  subst this;cases neg<;>simp[val]
 .rw[Qb h0]
  have hp:0<val mag:=wbG fun e=>h0 (by rw[(zgX h.1).1 e];rfl)
  cases neg
  .have:(val mag:Int).sign=1:=wbQ (by omega)
   simpa using this
  .have:(val mag:Int).sign=1:=wbQ (by omega)
   simp[this]
theorem zfp(neg:Bool)(mag:List Nat)(hl:mag.length<30000000000000):Q7 prog 35 [gI neg mag] (tI .i64 (iv neg mag).sign):=by
 refine QH QB call35 func35 rfl ntmps35 results35 (by simp) (by decide) ?_;simp only[go_sem];have XG:=zj8 neg mag hl;by_cases h:IsI neg mag
 .rw[Qc h]at XG
  rw[zvV h];refine Q2 XG rfl ?_;simp only[go_sem];refine Q2 (zjF mag) rfl ?_;by_cases h0:mag.length=0
  .simp only[go_sem,h0]
  .simp only[go_sem,h0]
   cases neg
   .simp only[go_sem]
   .simp only[go_sem]
 .rw[Qb h]at XG
  have e:iv neg mag=0:=Qb h;rw[e];refine Q2 XG rfl ?_;simp only[go_sem];refine Q2 (zjF []) rfl ?_;simp only[go_sem];rfl
theorem zpg{neg:Bool}{mag:List Nat}(h:IsI neg mag):vN mag=val mag:=by unfold vN;rw[held,Qc h.1]
theorem zhX(x:Int):(x<0/\x.sign = -1)\/(x=0/\x.sign=0)\/(0<x/\x.sign=1):=by
 rcases wbF x 0 with h|h|h
 .exact .inl ⟨h,wcq h⟩
 .subst h;exact .inr (.inl ⟨rfl,rfl⟩)
 .exact .inr (.inr ⟨h,wbQ h⟩)
theorem zqV{s:Bool}{a:List Nat}(h:iv s a<0):iv s a = -(vN a:Int)/\IsI s a:=by
 by_cases hI:IsI s a
 .rw[zpg hI];unfold iv at h ⊢
  rw[Qc hI]at h ⊢;cases s
  .simp at h;omega
  .exact⟨rfl,hI⟩
 .unfold iv at h;rw[Qb hI]at h;omega
theorem znQ{s:Bool}{a:List Nat}(h:0<=iv s a):∃ l,(if IsI s a then gS a s else gS [] false)=gS l (if IsI s a then s else false)/\l.length<=a.length/\iv s a=(vN l:Int):=by
 by_cases hI:IsI s a
 .refine⟨a,by rw[Qc hI,Qc hI],Qd _,?_⟩
  rw[zpg hI];unfold iv at h ⊢;rw[Qc hI]at h ⊢;cases s
  .rfl
  .simp at h ⊢;omega
 .refine⟨[],by rw[Qb hI,Qb hI],Qk _,?_⟩
  unfold iv;rw[Qb hI];rfl
theorem zrt(s:Bool)(a:List Nat)(t:Bool)(b:List Nat)(ha:a.length<30000000000000)(hb:b.length<30000000000000):Q7 prog 79 [gI s a,gI t b] (tI .i64 (Za (iv s a) (iv t b))):=by
 refine QH QB call79 func79 rfl ntmps79 results79 (by simp) (by decide) ?_;simp only[go_sem];refine Q3 0 rfl ?_;simp only[go_sem];refine Q2 (zfp s a ha) rfl ?_;simp only[go_sem];refine Q2 (zfp t b hb) rfl ?_;simp only[go_sem];have h1:=zhX (iv s a);have h2:=zhX (iv t b);have G7:=zj8 s a ha;have Gz:=zj8 t b hb;have gn:=@zqV s a;have gn2:=@zqV t b;have gp:=@znQ s a;have gp2:=@znQ t b;generalize iv s a=x at *
 generalize iv t b=y at *
 generalize x.sign=sx at *
 generalize y.sign=sy at *
 refine QI (fun hne=>?_) (fun Jy=>?_)
 ·(iterate 3((try simp only[go_sem]);try simp(disch:=omega)only[Q4]))
  skip;try simp only[go_sem]
  refine zdQ rfl (by simp only[go_sem]<;>rfl) (by simp only[go_sem]<;>rfl) (Qd _) ?_;simp only[go_sem];unfold Za
  repeat' split
  all_goals omega
 .have Lv:sx=sy:=by omega
  subst Lv;simp only[go_sem];refine QI (fun Y1=>?_) (fun YI=>?_)
  .have hx:=(gn (by omega)).1
   have hy:=(gn2 (by omega)).1;simp only[go_sem];refine Q2 (zf5 b a hb ha) rfl ?_;simp only[go_sem];unfold Za
   repeat' split
   all_goals omega
  .obtain⟨l,e1,e2,e3⟩:=gp (by omega)
   obtain⟨l',f1,f2,f3⟩:=gp2 (by omega);rw[e1]at G7;rw[f1]at Gz;simp only[go_sem];refine Q3 0 rfl ?_;simp only[go_sem];refine Q2 G7 rfl ?_;simp only[go_sem];refine Q2 Gz rfl ?_;simp only[go_sem];refine Q2 (zf5 l l' (by omega) (by omega)) rfl ?_;simp only[go_sem];rw[e3,f3]
theorem zyv(s:Bool)(a:List Nat)(t:Bool)(b:List Nat)(ha:a.length<30000000000000)(hb:b.length<30000000000000):Q7 prog 118 [gI s a,gI t b] (tB (decide (iv s a=iv t b))):=by
 refine QH QB call118 func118 rfl ntmps118 results118 (by simp) (by decide) ?_;simp only[go_sem];refine Q2 (zrt s a t b ha hb) rfl ?_;simp only[go_sem];rw[waG];unfold Za
 repeat' split
 all_goals omega
abbrev eI(z:Int):TV:=gI (decide (z<0)) (dig z.natAbs)
abbrev sI(z:Int):TV:=gS (dig z.natAbs) (decide (z<0))
theorem zbb(s:Bool)(a:List Nat):(dig (iv s a).natAbs).length<=a.length:=by
 unfold iv;split
 .rename_i h
  have:dig (if s=true then -(val a:Int)else(val a:Int)).natAbs=a:=by
   rw[show(if s=true then -(val a:Int)else(val a:Int)).natAbs=val a by cases s<;>simp];exact h.1.trimZ
  rw[this];exact Qd _
 .simp[Zg]
theorem zd5(s:Bool)(a:List Nat)(hl:a.length<30000000000000):Q7 prog 62 [gI s a] (sI (iv s a)):=by
 have h:=zj8 s a hl;have e:(if IsI s a then gS a s else gS [] false)=sI (iv s a):=by
  unfold iv;by_cases hI:IsI s a
  .rw[Qc hI,Qc hI]
   have e1:(if s=true then -(val a:Int)else(val a:Int)).natAbs=val a:=by cases s<;>simp
   have e2:decide ((if s=true then -(val a:Int)else(val a:Int))<0)=s:=by
    cases s
    .simp
    .have:a≠[]:=by rcases hI.2 with h|h;exact h;cases h
     have:0<val a:=wbG fun e=>this ((zgX hI.1).1 e)
     simp;omega
   unfold sI;rw[e1,e2,hI.1.trimZ]
  .rw[Qb hI,Qb hI]
   simp[sI,Zg]
 rw[<-e];exact h
theorem zk2(l:List Nat)(hl:l.length<10000000000000):Q7 prog 126 [tN l] (gZ l):=by
 refine QH QB call126 func126 rfl ntmps126 results126 (by simp) (by decide) ?_;simp only[go_sem];refine Q2 (zpe l hl) rfl ?_;simp only[go_sem];exact .agg rfl fun j h h'=>by
  match j,h,h' with
  |0,_,_=>exact .t
  |j+1,h,_=>simp at h
theorem zrl(s:Bool)(a:List Nat)(hl:a.length<10000000000000):Q7 prog 82 [gI s a] (eI (-(iv s a))):=by
 refine QH QB call82 func82 rfl ntmps82 results82 (by simp) (by decide) ?_;simp only[go_sem];refine Q2 (zd5 s a (by omega)) rfl ?_;have Y4:=zbb s a;generalize iv s a=z at *
 have Xg:=zcz (dig z.natAbs) (!decide (z<0));have e:((!decide (z<0))&&decide (dig z.natAbs≠[]))=decide (-z<0):=by
  rw[waP];simp[Yc];omega
 rw[e]at Xg;simp only[go_sem];refine Q3 0 rfl ?_;simp only[go_sem];refine Q2 (zk2 _ (by omega)) rfl ?_;simp only[go_sem];refine Q2 Xg rfl ?_;simp only[go_sem];have e3:eI (-z)=gI (decide (-z<0)) (dig z.natAbs):=by unfold eI;rw[show(-z).natAbs=z.natAbs by omega]
 rw[e3];exact Zc .t .t
theorem zmo(s:Bool)(a:List Nat)(hl:a.length<10000000000000):Q7 prog 162 [gI s a] (eI ((iv s a).natAbs:Int)):=by
 refine QH QB call162 func162 rfl ntmps162 results162 (by simp) (by decide) ?_;simp only[go_sem];refine Q2 (zd5 s a (by omega)) rfl ?_;have Y4:=zbb s a;generalize iv s a=z at *
 have Xg:=zcz (dig z.natAbs) false;rw[show(false&&decide (dig z.natAbs≠[]))=false from rfl]at Xg;simp only[go_sem];refine Q2 (zk2 _ (by omega)) rfl ?_;simp only[go_sem];refine Q2 Xg rfl ?_;simp only[go_sem];have e3:eI (z.natAbs:Int)=gI false (dig z.natAbs):=by
  unfold eI;rw[show((z.natAbs:Int)).natAbs=z.natAbs by omega,wan (by omega)]
 rw[e3];exact Zc .t .t
theorem zcR{z w:Int}{b:Bool}(h:(b&&decide (dig w.natAbs≠[]))=decide (z<0))(e:z.natAbs=w.natAbs):gI (b&&decide (dig w.natAbs≠[])) (dig w.natAbs)=eI z:=by
 unfold eI;rw[h,e]
theorem zms(s:Bool)(a:List Nat)(t:Bool)(b:List Nat)(ha:a.length<2000000000000)(hb:b.length<2000000000000):Q7 prog 136 [gI s a,gI t b] (eI (iv s a*iv t b)):=by
 refine QH QB call136 func136 rfl ntmps136 results136 (by simp) (by decide) ?_;simp only[go_sem];refine Q3 0 rfl ?_;simp only[go_sem];refine Q2 (zd5 s a (by omega)) rfl ?_;simp only[go_sem];refine Q2 (zd5 t b (by omega)) rfl ?_;have VZ:=zbb s a;have UH:=zbb t b;generalize iv s a=x at *
 generalize iv t b=y at *
 have VI:=ziw (dig x.natAbs) (dig y.natAbs) (by omega) (by omega);rw[Zk,Zk,<-wa9]at VI;have Xg:=zcz (dig (x*y).natAbs) (decide (x<0) != decide (y<0));have YR:((decide (x<0) != decide (y<0))&&decide (dig (x*y).natAbs≠[]))=decide (x*y<0):=by
  rw[waP];simp[Yc];rcases wbF x 0 with h|h|h<;>rcases wbF y 0 with h'|h'|h'<;>simp_all [wek,wel]<;>first|omega|(have:=wem h h';omega)|(have:=Int.mul_pos h h';omega)|skip
 rw[zcR YR rfl]at Xg;simp only[go_sem];refine Q3 0 rfl ?_;simp only[go_sem];refine Q2 VI rfl ?_;simp only[go_sem];refine Q2 Xg rfl ?_;simp only[go_sem];exact Zc .t .t
theorem zym(a b:List Nat)(ha:a.length<30000000000000)(hb:b.length<30000000000000):Q7 prog 124 [gZ a,gZ b] (tB (decide (vN b<vN a))):=by
 refine QH QB call124 func124 rfl ntmps124 results124 (by simp) (by decide) ?_;simp only[go_sem];refine Q2 (zf5 a b ha hb) rfl ?_;simp only[go_sem];rw[waG];unfold Za
 repeat' split
 all_goals omega
theorem zjY(s:Bool)(a:List Nat)(t:Bool)(b:List Nat)(ha:a.length<2000000000000)(hb:b.length<2000000000000):Q7 prog 81 [gI s a,gI t b] (eI (iv s a+iv t b)):=by
 refine QH QB call81 func81 rfl ntmps81 results81 (by simp) (by decide) ?_;simp only[go_sem];refine Q3 0 rfl ?_;simp only[go_sem];refine Q2 (zd5 s a (by omega)) rfl ?_;simp only[go_sem];refine Q2 (zd5 t b (by omega)) rfl ?_;have VZ:=zbb s a;have UH:=zbb t b;generalize iv s a=x at *
 generalize iv t b=y at *
 by_cases Y8:(decide (x<0))=decide (y<0)
 .have XI:=znw (dig x.natAbs) (dig y.natAbs) (by omega) (by omega)
  rw[Zk,Zk]at XI;have hz:x.natAbs+y.natAbs=(x+y).natAbs:=by
   rw[waG]at Y8;omega
  rw[hz]at XI;have Xg:=zcz (dig (x+y).natAbs) (decide (x<0));have YR:(decide (x<0)&&decide (dig (x+y).natAbs≠[]))=decide (x+y<0):=by
   rw[waG]at Y8;rw[waP];simp only[ne_eq,waj,waA,Yc];omega
  rw[zcR YR rfl]at Xg;have Kf:(decide (x<0)==decide (y<0))=true:=by rw[Y8];simp
  simp only[go_sem,Kf];refine Q3 0 rfl ?_;simp only[go_sem];refine Q2 XI rfl ?_;simp only[go_sem];refine Q2 Xg rfl ?_;simp only[go_sem];exact Zc .t .t
 .have Kf:(decide (x<0)==decide (y<0))=false:=by simpa using Y8
  rw[waG]at Y8;have KC:=zym (dig x.natAbs) (dig y.natAbs) (by omega) (by omega);rw[Zk,Zk]at KC;simp only[go_sem,Kf];refine Q2 KC rfl ?_;by_cases Wo:y.natAbs<x.natAbs
  .have YL:=zkv (dig x.natAbs) (dig y.natAbs) (by omega) (by omega)
   rw[Zk,Zk,show x.natAbs-y.natAbs=(x+y).natAbs by omega]at YL;have Xg:=zcz (dig (x+y).natAbs) (decide (x<0));have YR:(decide (x<0)&&decide (dig (x+y).natAbs≠[]))=decide (x+y<0):=by
    rw[waP];simp only[ne_eq,waj,waA,Yc];omega
   rw[zcR YR rfl]at Xg;simp only[go_sem,Wo];refine Q3 0 rfl ?_;simp only[go_sem];refine Q2 YL rfl ?_;simp only[go_sem];refine Q2 Xg rfl ?_;simp only[go_sem];exact Zc .t .t
  .have YL:=zkv (dig y.natAbs) (dig x.natAbs) (by omega) (by omega)
   rw[Zk,Zk,show y.natAbs-x.natAbs=(x+y).natAbs by omega]at YL;have Xg:=zcz (dig (x+y).natAbs) (decide (y<0));have YR:(decide (y<0)&&decide (dig (x+y).natAbs≠[]))=decide (x+y<0):=by
    rw[waP];simp only[ne_eq,waj,waA,Yc];omega
   rw[zcR YR rfl]at Xg;simp only[go_sem,Wo];refine Q3 0 rfl ?_;simp only[go_sem];refine Q2 YL rfl ?_;simp only[go_sem];refine Q2 Xg rfl ?_;simp only[go_sem];exact Zc .t .t
theorem zjG(z:Int):IsI (decide (z<0)) (dig z.natAbs):=by
 refine⟨zjm _,?_⟩;by_cases h:z<0
 .left;intro e;rw[Yc]at e;omega
 .right;simp[h]
theorem Zn(z:Int):iv (decide (z<0)) (dig z.natAbs)=z:=by
 unfold iv;rw[Qc (zjG z),zaX];by_cases h:z<0
 .rw[Qc (by simp[h])];omega
 .rw[Qb (by simp[h])];omega
theorem zy3(s:Bool)(a:List Nat)(t:Bool)(b:List Nat)(ha:a.length<2000000000000)(hb:b.length<2000000000000):Q7 prog 130 [gI s a,gI t b] (eI (iv s a-iv t b)):=by
 refine QH QB call130 func130 rfl ntmps130 results130 (by simp) (by decide) ?_;simp only[go_sem];refine Q2 (zd5 t b (by omega)) rfl ?_;have UH:=zbb t b;generalize iv t b=y at *
 have Xg:=zcz (dig y.natAbs) (!decide (y<0));have YR:((!decide (y<0))&&decide (dig y.natAbs≠[]))=decide (-y<0):=by
  rw[waP];simp[Yc];omega
 rw[zcR YR (by omega)]at Xg;have XI:=zjY s a (decide (-y<0)) (dig (-y).natAbs) ha (by rw[show(-y).natAbs=y.natAbs by omega];omega);rw[Zn,<-wdR]at XI;simp only[go_sem];refine Q3 0 rfl ?_;simp only[go_sem];refine Q2 Xg rfl ?_;simp only[go_sem];refine Q2 XI rfl ?_;simp only[go_sem];exact Zc .t .t
theorem zgo{H:QE}{a:C}{x:T}(h1:FzC H a x):FzA H (.agg [a]) (.agg [x]):=.agg rfl fun j h h'=>by
 match j,h,h' with
 |0,_,_=>exact h1
 |j+1,h,_=>simp at h
def zbe(m n:Nat)(up:Bool):Nat:=if up=true/\m%n≠0 then m/n+1 else m/n
def zb5(m n:Nat)(up:Bool):Nat:=if up=true/\m%n≠0 then n-m%n else m%n
theorem ztU(m n:Nat)(up:Bool)(ha:(dig m).length<100000000000)(hb:(dig n).length<100000000000):Q7 prog 152 [gZ (dig m),gZ (dig n),tB up] (.tup [gZ (dig (zbe m n up)),gZ (dig (zb5 m n up))]):=by
 refine QH QB call152 func152 rfl ntmps152 results152 (by simp) (by decide) ?_;simp only[go_sem];have UN:=ziJ (dig m) (dig n) (by omega) (by omega);rw[Zk,Zk]at UN;refine Q2 UN rfl ?_;simp only[go_sem];cases up with
 |false =>
  have e1:zbe m n false=m/n:=by simp[zbe]
  have e2:zb5 m n false=m%n:=by simp[zb5]
  rw[e1,e2];simp only[go_sem];exact zao (zgo .t) (zgo .t)
 |true =>
  have hm:=Yu (zcQ m);rw[zaX]at hm;have l1:(dig (m/n)).length<=(dig m).length:=zaz (wbV (wb3 _ _) hm);have l2:(dig (m%n)).length<=(dig m).length:=zaz (wbV (Nat.mod_le _ _) hm);by_cases hr:m%n=0
  .have e1:zbe m n true=m/n:=by simp[zbe,hr]
   have e2:zb5 m n true=m%n:=by simp[zb5,hr]
   have h0:¬(0:Int)<((dig (m%n)).length:Int):=by rw[hr,Zg];simp
   rw[e1,e2];simp only[go_sem,h0];exact zao (zgo .t) (zgo .t)
  .have e1:zbe m n true=m/n+1:=by simp[zbe,hr]
   have e2:zb5 m n true=n-m%n:=by simp[zb5,hr]
   have h0:(0:Int)<((dig (m%n)).length:Int):=by
    have:dig (m%n)≠[]:=fun e=>hr (Yc.1 e)
    have:=wbc.2 this;omega
   have YT:=zi8 1 (by decide);have l3:(dig 1).length<=3:=zaz (by decide);have XI:=znw (dig (m/n)) (dig 1) (by omega) (by omega);have YL:=zkv (dig n) (dig (m%n)) (by omega) (by omega);rw[Zk,Zk]at XI YL;rw[e1,e2];simp only[go_sem,h0];refine Q3 0 rfl ?_;simp only[go_sem];refine Q2 YT rfl ?_;simp only[go_sem];refine Q2 XI rfl ?_;simp only[go_sem];refine Q2 YL rfl ?_;simp only[go_sem];exact zao (zgo .t) (zgo .t)
theorem ziv(x y:Int)(hy:y≠0):Int.fdiv x y=(if(decide (x<0) != decide (y<0))=true then -(zbe x.natAbs y.natAbs (decide (x<0) != decide (y<0)):Int)else(zbe x.natAbs y.natAbs (decide (x<0) != decide (y<0)):Int))/\Int.fmod x y=(if y<0 then -(zb5 x.natAbs y.natAbs (decide (x<0) != decide (y<0)):Int)else(zb5 x.natAbs y.natAbs (decide (x<0) != decide (y<0)):Int)):=by
 have hn:0<y.natAbs:=by omega
 have hd:=wcn x.natAbs y.natAbs;have hl:=waw x.natAbs hn;unfold zbe zb5;generalize x.natAbs/y.natAbs=q at *
 generalize x.natAbs%y.natAbs=r at *
 have Nh:(y.natAbs:Int)*q+r=x.natAbs:=by exact_mod_cast hd
 have key:∀ Q R:Int,x=y*Q+R->((0<y->0<=R/\R<y)/\(y<0->R<=0/\y<R))->Int.fdiv x y=Q/\Int.fmod x y=R:=fun Q R e h=>by
  have h2:Int.fdiv R y=0:=by
   rcases Int.lt_or_le y 0 with h'|h'
   .rw[<-Int.neg_fdiv_neg,wcz _ (by omega)]
    have:=h.2 h';exact Int.ediv_eq_zero_of_lt (by omega) (by omega)
   .have:=h.1 (by omega)
    rw[wcz _ h'];exact Int.ediv_eq_zero_of_lt (by omega) (by omega)
  have h3:Int.fdiv x y=Q:=by rw[e,Int.add_comm,Int.add_mul_fdiv_left _ _ hy,h2,wb7]
  refine⟨h3,?_⟩;rw[Int.fmod_def,h3,e];omega
 have Fr:y<0->(y.natAbs:Int) = -y:=by omega
 have Ox:0<=y->(y.natAbs:Int)=y:=by omega
 have GH:∀ Q:Int,(-y)*Q = -(y*Q):=fun Q=>wbX y Q
 rcases Int.lt_or_le x 0 with hx|hx<;>rcases Int.lt_or_le y 0 with hy'|hy'<;>by_cases hr:r=0
 all_goals
  first|rw[Fr hy',GH]at Nh|rw[Ox hy']at Nh
  simp only[hx,hy',hr,wcF.2 hx,wcF.2 hy',decide_true,decide_false,show(true != false)=true from rfl,show(false != true)=true from rfl,show(true != true)=false from rfl,show(false != false)=false from rfl,wa3,if_false,if_true,ne_eq,not_true_eq_false,not_false_eq_true,Qv,and_false,false_and];refine key _ _ ?_ ?_<;>(try simp only[Int.natCast_add,Int.natCast_one,wb5,wbz,wa4,Int.neg_add])<;>omega
theorem zwB(s:Bool)(a:List Nat)(t:Bool)(b:List Nat)(ha:a.length<10000000000)(hb:b.length<10000000000):Q7 prog 116 [gI s a,gI t b] (.tup [eI (Int.fdiv (iv s a) (iv t b)),eI (Int.fmod (iv s a) (iv t b))]):=by
 refine QH QB call116 func116 rfl ntmps116 results116 (by simp) (by decide) ?_;simp only[go_sem];refine Q3 0 rfl ?_;simp only[go_sem];refine Q2 (zd5 s a (by omega)) rfl ?_;simp only[go_sem];refine Q2 (zd5 t b (by omega)) rfl ?_;have VZ:=zbb s a;have UH:=zbb t b;generalize iv s a=x at *
 generalize iv t b=y at *
 simp only[go_sem];refine Q2 (zjF (dig y.natAbs)) rfl ?_;by_cases hy:y=0
 .subst hy
  have e0:(dig (0:Int).natAbs).length=0:=by simp[Zg]
  have Xg:=zcz (dig x.natAbs) (decide (x<0));have YR:(decide (x<0)&&decide (dig x.natAbs≠[]))=decide (x<0):=by
   rw[waP];simp[Yc];omega
  rw[zcR YR rfl]at Xg;rw[wdn,wdo];simp only[go_sem,e0];refine Q3 0 rfl ?_;simp only[go_sem];refine Q2 (zk2 _ (by omega)) rfl ?_;simp only[go_sem];refine Q2 Xg rfl ?_;simp only[go_sem];have e3:eI 0=gI false []:=by unfold eI;simp[Zg]
  rw[e3];exact zao (Zc .t .weak) (Zc .t .t)
 .have hne:¬(dig y.natAbs).length=0:=fun e=>by
   have:=Yc.1 (wbd.1 e);omega
  have Ge:=ztU x.natAbs y.natAbs (decide (x<0) != decide (y<0)) (by omega) (by omega);have law:=ziv x y hy;generalize zbe x.natAbs y.natAbs (decide (x<0) != decide (y<0))=q at *
  generalize zb5 x.natAbs y.natAbs (decide (x<0) != decide (y<0))=r at *
  have Vs:(Int.fdiv x y).natAbs=q:=by rw[law.1];split<;>omega
  have Uo:(Int.fmod x y).natAbs=r:=by rw[law.2];split<;>omega
  have XM:=zcz (dig q) (decide (x<0) != decide (y<0));have Jz:=zcz (dig r) (decide (y<0));have s1:((decide (x<0) != decide (y<0))&&decide (dig q≠[]))=decide (Int.fdiv x y<0):=by
   rw[waP];simp only[ne_eq,waj,waA,Yc];rw[law.1];split<;>simp_all<;>omega
  have s2:(decide (y<0)&&decide (dig r≠[]))=decide (Int.fmod x y<0):=by
   rw[waP];simp only[ne_eq,waj,waA,Yc];rw[law.2];split<;>omega
  rw[s1,<-Vs]at XM;rw[s2,<-Uo]at Jz;rw[<-Vs,<-Uo]at Ge;simp only[go_sem,hne];refine Q2 Ge rfl ?_;simp only[go_sem];refine Q3 0 rfl ?_;simp only[go_sem];refine Q2 XM rfl ?_;simp only[go_sem];refine Q2 Jz rfl ?_;simp only[go_sem];exact zao (Zc .t .t) (Zc .t .t)
theorem zxL(m n:Nat)(hm:(dig m).length<100000000000)(hn:(dig n).length<100000000000):Q7 prog 178 [tN (dig m),tN (dig n)] (tN (dig (Nat.gcd m n))):=by
 refine QH QB call178 func178 rfl ntmps178 results178 (by simp) (by decide) ?_;simp only[go_sem];refine QJ (fun p:Nat×Nat=>stL 19 [(0,aN (dig p.1)),(1,aN (dig p.2))] []) (fun p=>(dig p.1).length<100000000000/\(dig p.2).length<100000000000/\Nat.gcd p.1 p.2=Nat.gcd m n) (fun p=>p.2) (m,n) ?_ ⟨hm,hn,rfl⟩ ?_
 .refine Q6 rfl ?_ ?_ rfl rfl<;>simp only[go_sem]<;>simp
 .rintro⟨x,y⟩ ⟨hx,hy,hg⟩
  simp only at hx hy hg ⊢;simp only[go_sem];refine QI (fun h=>?_) (fun h=>?_)
  .have XH:y≠0:=by rintro rfl;simp[Zg]at h
   have UN:=ziJ (dig x) (dig y) (by omega) (by omega);rw[Zk,Zk]at UN;simp only[go_sem];refine Q2 UN rfl ?_;simp only[go_sem];have Y1:=waw x (wbG XH);have Gk:=Yu (zcQ y);rw[zaX]at Gk;have hl:(dig (x%y)).length<=(dig y).length:=zaz (by omega);refine⟨(y,x%y),⟨hy,(by show(dig (x%y)).length<100000000000;omega),by show Nat.gcd y (x%y)=_;rw[<-hg,wcm y,<-Nat.gcd_rec,wcm]⟩,Y1,?_⟩;refine Q6 rfl ?_ ?_ rfl rfl<;>simp only[go_sem]<;>simp
  .have XH:y=0:=by
    have:(dig y).length=0:=by omega
    exact Yc.1 (wbd.1 this)
   subst XH;rw[wdQ]at hg;subst hg;simp only[go_sem];exact Yk
theorem zmI(neg:Bool)(mag:List Nat)(hl:mag.length<30000000000000):Q7 prog 14 [gI neg mag] (tB (decide (IsI neg mag))):=by
 refine QH QB call14 func14 rfl ntmps14 results14 (by simp) (by decide) ?_;simp only[go_sem];refine Q2 (zp0 mag hl) rfl ?_;by_cases h:IsN mag
 .cases mag with
  |nil =>
   cases neg
   .simp only[go_sem,h]
    simp[IsI,h]
   .simp only[go_sem,h]
    simp[IsI]
  |cons x l =>
   have hp:(0:Int)<(l.length:Int)+1:=by omega
   cases neg
   .simp only[go_sem,h]
    simp[IsI,h]
   .simp only[go_sem,h,hp]
    simp[IsI,h]
 .simp only[go_sem,h]
  simp[IsI,h]
theorem zj4{s:Bool}{a:List Nat}(hI:IsI s a):gI s a=eI (iv s a):=by
 unfold eI iv;rw[Qc hI];have e1:(if s=true then -(val a:Int)else(val a:Int)).natAbs=val a:=by cases s<;>simp
 have e2:decide ((if s=true then -(val a:Int)else(val a:Int))<0)=s:=by
  cases s
  .simp
  .have:a≠[]:=by rcases hI.2 with h|h;exact h;cases h
   have:0<val a:=wbG fun e=>this ((zgX hI.1).1 e)
   simp;omega
 rw[e1,e2,hI.1.trimZ]
theorem zlQ:eI 0=gI false []:=by unfold eI;simp[Zg]
theorem zcD(s:Bool)(a:List Nat)(hl:a.length<30000000000000):Q7 prog 44 [gI s a] (eI (iv s a)):=by
 refine QH QB call44 func44 rfl ntmps44 results44 (by simp) (by decide) ?_;simp only[go_sem];refine Q2 (zmI s a hl) rfl ?_;by_cases h:IsI s a
 .rw[<-zj4 h]
  simp only[go_sem,h];exact Zc .t .t
 .have e:iv s a=0:=Qb h
  rw[e,zlQ];simp only[go_sem,h];exact Zc .t .weak
theorem zeH(neg:Bool)(l:List Nat):Q7 prog 42 [tB neg,tN l] (gI (neg&&decide (l≠[])) l):=by
 refine QH QB call42 func42 rfl ntmps42 results42 (by simp) (by decide) ?_;simp only[go_sem];cases neg with
 |false =>
  simp only[go_sem];exact Zc .t .t
 |true =>
  have e:decide (0<(l.length:Int))=decide (¬l=[]):=by cases l<;>simp
  simp only[go_sem,e];exact Zc .t .t
theorem zbt(n:Int)(h1 : -9223372036854775808<=n)(h2:n<9223372036854775808):Q7 prog 22 [tI .i64 n] (eI n):=by
 refine QH QB call22 func22 rfl ntmps22 results22 (by simp) (by decide) ?_;simp only[go_sem];have Gw:n.natAbs<18446744073709551616:=by omega
 have XG:=zw9 n.natAbs Gw;refine QI (fun hn=>?_) (fun hn=>?_)
 .have hw:IntKind.wrap .u64 (0-IntKind.wrap .u64 n)=(n.natAbs:Int):=by
   unfold IntKind.wrap;simp[IntKind.signed,IntKind.bits];omega
  have Xg:=zeH true (dig n.natAbs);have YR:(true&&decide (dig n.natAbs≠[]))=true:=by
   rw[wbD,decide_eq_true_iff,ne_eq,Yc];omega
  rw[YR]at Xg;have e:eI n=gI true (dig n.natAbs):=by unfold eI;rw[waC hn]
  rw[e];simp only[go_sem,hn,hw];refine Q2 XG rfl ?_;simp only[go_sem];refine Q2 Xg rfl ?_;simp only[go_sem];exact Zc .t .t
 .have hw:IntKind.wrap .u64 n=(n.natAbs:Int):=by rw[QC (by omega) (by omega)];omega
  have e:eI n=gI false (dig n.natAbs):=by unfold eI;rw[wan hn]
  rw[e];simp only[go_sem,hn,hw];refine Q2 XG rfl ?_;simp only[go_sem];exact Zc .t .t
theorem zy9(s:Bool)(a:List Nat)(hl:a.length<10000000000000):Q7 prog 73 [gI s a] (eI (-(iv s a))):=by
 refine QH QB call73 func73 rfl ntmps73 results73 (by simp) (by decide) ?_;simp only[go_sem];refine Q2 (zcD s a (by omega)) rfl ?_;generalize iv s a=z at *
 have Xg:=zeH (!decide (z<0)) (dig z.natAbs);have e:((!decide (z<0))&&decide (dig z.natAbs≠[]))=decide (-z<0):=by
  rw[waP];simp[Yc];omega
 rw[zcR e (by omega)]at Xg;simp only[go_sem];refine Q2 Xg rfl ?_;simp only[go_sem];exact Zc .t .t
theorem zrn(s:Bool)(a:List Nat)(hl:a.length<10000000000000):Q7 prog 29 [gI s a] (eI ((iv s a).natAbs:Int)):=by
 refine QH QB call29 func29 rfl ntmps29 results29 (by simp) (by decide) ?_;simp only[go_sem];refine Q2 (zcD s a (by omega)) rfl ?_;generalize iv s a=z at *
 have e3:eI (z.natAbs:Int)=gI false (dig z.natAbs):=by
  unfold eI;rw[show((z.natAbs:Int)).natAbs=z.natAbs by omega,wan (by omega)]
 rw[e3];simp only[go_sem];exact Zc .t .t
theorem zlU(neg:Bool)(mag:List Nat)(hl:mag.length<30000000000000):Q7 prog 24 [gI neg mag] (tI .i64 (iv neg mag).sign):=by
 refine QH QB call24 func24 rfl ntmps24 results24 (by simp) (by decide) ?_;simp only[go_sem];refine Q2 (zcD neg mag hl) rfl ?_;have hs:=zhX (iv neg mag);generalize iv neg mag=z at *
 generalize z.sign=sg at *
 by_cases h0:z=0
 .have e0:(dig z.natAbs).length=0:=by subst h0;simp[Zg]
  simp only[go_sem,e0];omega
 .have hne:¬((dig z.natAbs).length:Int)=0:=fun e=>by
   have:=Yc.1 (wbd.1 (Int.ofNat_inj.1 e));omega
  by_cases hn:z<0
  .have e:sg = -1:=by omega
   simp only[go_sem,hne,hn,e]
  .have e:sg=1:=by omega
   simp only[go_sem,hne,hn,e]
theorem zyX(s:Bool)(a:List Nat)(t:Bool)(b:List Nat)(ha:a.length<10000000000000)(hb:b.length<10000000000000):Q7 prog 25 [gI s a,gI t b] (tI .i64 (Za (iv s a) (iv t b))):=by
 refine QH QB call25 func25 rfl ntmps25 results25 (by simp) (by decide) ?_;simp only[go_sem];refine Q3 0 rfl ?_;simp only[go_sem];refine Q2 (zcD s a (by omega)) rfl ?_;simp only[go_sem];refine Q2 (zcD t b (by omega)) rfl ?_;have VZ:=zbb s a;have UH:=zbb t b;generalize iv s a=x at *
 generalize iv t b=y at *
 have c1:=zhh (dig x.natAbs) (dig y.natAbs) (by omega) (by omega);have c2:=zhh (dig y.natAbs) (dig x.natAbs) (by omega) (by omega);rw[Zk,Zk]at c1 c2;by_cases hx:x<0
 .by_cases hy:y<0
  .simp only[go_sem,hx,hy]
   refine Q2 c2 rfl ?_;simp only[go_sem];unfold Za
   repeat' split
   all_goals omega
  .simp only[go_sem,hx,hy]
   unfold Za;rw[Qc (by omega)]
 .by_cases hy:y<0
  .simp only[go_sem,hx,hy]
   unfold Za;rw[Qb (by omega),Qc (by omega)]
  .simp only[go_sem,hx,hy]
   refine Q2 c1 rfl ?_;simp only[go_sem];unfold Za
   repeat' split
   all_goals omega
theorem zws(s:Bool)(a:List Nat)(t:Bool)(b:List Nat)(ha:a.length<30000000000000)(hb:b.length<30000000000000):Q7 prog 27 [gI s a,gI t b] (tB (decide (s=t/\a=b))):=by
 refine QH QB call27 func27 rfl ntmps27 results27 (by simp) (by decide) ?_;simp only[go_sem];by_cases YM:s=t
 .have e:(s==t)=true:=by simp[YM]
  simp only[go_sem,e];refine Q2 (zt3 a b ha hb) rfl ?_;simp only[go_sem];simp[YM]
 .have e:(s==t)=false:=by simp[YM]
  simp only[go_sem,e];simp[YM]
theorem zrh(s:Bool)(a:List Nat)(t:Bool)(b:List Nat)(ha:a.length<2000000000000)(hb:b.length<2000000000000):Q7 prog 67 [gI s a,gI t b] (eI (iv s a+iv t b)):=by
 refine QH QB call67 func67 rfl ntmps67 results67 (by simp) (by decide) ?_;simp only[go_sem];refine Q3 0 rfl ?_;simp only[go_sem];refine Q2 (zcD s a (by omega)) rfl ?_;simp only[go_sem];refine Q2 (zcD t b (by omega)) rfl ?_;have VZ:=zbb s a;have UH:=zbb t b;generalize iv s a=x at *
 generalize iv t b=y at *
 by_cases Y8:(decide (x<0))=decide (y<0)
 .have XI:=zkT (dig x.natAbs) (dig y.natAbs) (by omega) (by omega)
  rw[Zk,Zk]at XI;have hz:x.natAbs+y.natAbs=(x+y).natAbs:=by
   rw[waG]at Y8;omega
  rw[hz]at XI;have Xg:=zeH (decide (x<0)) (dig (x+y).natAbs);have YR:(decide (x<0)&&decide (dig (x+y).natAbs≠[]))=decide (x+y<0):=by
   rw[waG]at Y8;rw[waP];simp only[ne_eq,waj,waA,Yc];omega
  rw[zcR YR rfl]at Xg;have Kf:(decide (x<0)==decide (y<0))=true:=by rw[Y8];simp
  simp only[go_sem,Kf];refine Q3 0 rfl ?_;simp only[go_sem];refine Q2 XI rfl ?_;simp only[go_sem];refine Q2 Xg rfl ?_;simp only[go_sem];exact Zc .t .t
 .have Kf:(decide (x<0)==decide (y<0))=false:=by simpa using Y8
  rw[waG]at Y8;have KC:=zhh (dig x.natAbs) (dig y.natAbs) (by omega) (by omega);rw[Zk,Zk]at KC;simp only[go_sem,Kf];refine Q2 KC rfl ?_;by_cases Wo:y.natAbs<=x.natAbs
  .have hc:0<=Za (x.natAbs:Int) (y.natAbs:Int):=by
    unfold Za;repeat' split
    all_goals omega
   have YL:=zk6 (dig x.natAbs) (dig y.natAbs) (by omega) (by omega);rw[Zk,Zk,show x.natAbs-y.natAbs=(x+y).natAbs by omega]at YL;have Xg:=zeH (decide (x<0)) (dig (x+y).natAbs);have YR:(decide (x<0)&&decide (dig (x+y).natAbs≠[]))=decide (x+y<0):=by
    rw[waP];simp only[ne_eq,waj,waA,Yc];omega
   rw[zcR YR rfl]at Xg;simp only[go_sem,hc];refine Q3 0 rfl ?_;simp only[go_sem];refine Q2 YL rfl ?_;simp only[go_sem];refine Q2 Xg rfl ?_;simp only[go_sem];exact Zc .t .t
  .have hc:¬0<=Za (x.natAbs:Int) (y.natAbs:Int):=by
    unfold Za;repeat' split
    all_goals omega
   have YL:=zk6 (dig y.natAbs) (dig x.natAbs) (by omega) (by omega);rw[Zk,Zk,show y.natAbs-x.natAbs=(x+y).natAbs by omega]at YL;have Xg:=zeH (decide (y<0)) (dig (x+y).natAbs);have YR:(decide (y<0)&&decide (dig (x+y).natAbs≠[]))=decide (x+y<0):=by
    rw[waP];simp only[ne_eq,waj,waA,Yc];omega
   rw[zcR YR rfl]at Xg;simp only[go_sem,hc];refine Q3 0 rfl ?_;simp only[go_sem];refine Q2 YL rfl ?_;simp only[go_sem];refine Q2 Xg rfl ?_;simp only[go_sem];exact Zc .t .t
theorem zyY(s:Bool)(a:List Nat)(t:Bool)(b:List Nat)(ha:a.length<2000000000000)(hb:b.length<2000000000000):Q7 prog 46 [gI s a,gI t b] (eI (iv s a-iv t b)):=by
 refine QH QB call46 func46 rfl ntmps46 results46 (by simp) (by decide) ?_;simp only[go_sem];refine Q3 0 rfl ?_;simp only[go_sem];refine Q2 (zy9 t b (by omega)) rfl ?_;have UH:=zbb t b;simp only[go_sem];have JY:=zrh s a (decide (-(iv t b)<0)) (dig (-(iv t b)).natAbs) ha (by rw[wbU];omega);rw[Zn,<-wdR]at JY;refine Q2 JY rfl ?_;simp only[go_sem];exact Zc .t .t
def lN(z:Int):Nat:=(dig z.natAbs).length
theorem zbo(z:Int):z.natAbs<BB^lN z:=by
 have:=Yu (zcQ z.natAbs);rwa[zaX]at this
theorem zbS{z:Int}{k:Nat}(h:z.natAbs<BB^k):lN z<=k:=zaz h
theorem Zw(z:Int):lN (-z)=lN z:=by unfold lN;rw[wbU]
theorem zhy(z:Int):lN (z.natAbs:Int)=lN z:=by unfold lN;rw[wbe]
theorem zkh(k:Nat):BB^(k+1)=1000000000*BB^k:=by rw[waJ,Qu]
theorem za8(x y:Int):lN (x+y)<=max (lN x) (lN y)+1:=by
 apply zbS;have h1:=zbo x;have h2:=zbo y;have h3:BB^lN x<=BB^max (lN x) (lN y):=waW (by decide) (wbT ..);have h4:BB^lN y<=BB^max (lN x) (lN y):=waW (by decide) (wbO ..);have h5:=Int.natAbs_add_le x y;rw[zkh];omega
theorem zez(x y:Int):lN (x-y)<=max (lN x) (lN y)+1:=by
 have:=za8 x (-y);rwa[Zw,<-wdR]at this
theorem ZS(x y:Int):lN (x*y)<=lN x+lN y:=by
 apply zbS;rw[wa9,wbl];exact wcA (zbo x) (zbo y)
theorem zeI{x y:Int}(h:x.natAbs<=y.natAbs):lN x<=lN y:=zbS (wbV h (zbo y))
theorem zav(s:Bool)(a:List Nat):lN (iv s a)<=a.length:=zbb s a
theorem zcP:lN 1<=1:=zbS (by decide)
theorem zmj(s:Bool)(a:List Nat)(t:Bool)(b:List Nat)(ha:a.length<2000000000000)(hb:b.length<2000000000000):Q7 prog 26 [gI s a,gI t b] (eI (iv s a*iv t b)):=by
 refine QH QB call26 func26 rfl ntmps26 results26 (by simp) (by decide) ?_;simp only[go_sem];refine Q3 0 rfl ?_;simp only[go_sem];refine Q2 (zcD s a (by omega)) rfl ?_;simp only[go_sem];refine Q2 (zcD t b (by omega)) rfl ?_;have VZ:=zbb s a;have UH:=zbb t b;generalize iv s a=x at *
 generalize iv t b=y at *
 have VI:=zvt (dig x.natAbs) (dig y.natAbs) (by omega) (by omega);rw[Zk,Zk,<-wa9]at VI;have Xg:=zeH (decide (x<0) != decide (y<0)) (dig (x*y).natAbs);have YR:((decide (x<0) != decide (y<0))&&decide (dig (x*y).natAbs≠[]))=decide (x*y<0):=by
  rw[waP];simp[Yc];rcases wbF x 0 with h|h|h<;>rcases wbF y 0 with h'|h'|h'<;>simp_all [wek,wel]<;>first|omega|(have:=wem h h';omega)|(have:=Int.mul_pos h h';omega)|skip
 rw[zcR YR rfl]at Xg;simp only[go_sem];refine Q3 0 rfl ?_;simp only[go_sem];refine Q2 VI rfl ?_;simp only[go_sem];refine Q2 Xg rfl ?_;simp only[go_sem];exact Zc .t .t
theorem ziU(x:Int)(hl:lN x<30000000000000):Q7 prog 24 [eI x] (tI .i64 x.sign):=by
 have:=zlU (decide (x<0)) (dig x.natAbs) hl;rwa[Zn]at this
theorem zlm(x y:Int)(ha:lN x<2000000000000)(hb:lN y<2000000000000):Q7 prog 67 [eI x,eI y] (eI (x+y)):=by
 have:=zrh (decide (x<0)) (dig x.natAbs) (decide (y<0)) (dig y.natAbs) ha hb;rwa[Zn,Zn]at this
theorem zvM(x y:Int)(ha:lN x<2000000000000)(hb:lN y<2000000000000):Q7 prog 46 [eI x,eI y] (eI (x-y)):=by
 have:=zyY (decide (x<0)) (dig x.natAbs) (decide (y<0)) (dig y.natAbs) ha hb;rwa[Zn,Zn]at this
theorem zpb(x y:Int)(ha:lN x<2000000000000)(hb:lN y<2000000000000):Q7 prog 26 [eI x,eI y] (eI (x*y)):=by
 have:=zmj (decide (x<0)) (dig x.natAbs) (decide (y<0)) (dig y.natAbs) ha hb;rwa[Zn,Zn]at this
theorem zvN(x y:Int)(ha:lN x<10000000000000)(hb:lN y<10000000000000):Q7 prog 25 [eI x,eI y] (tI .i64 (Za x y)):=by
 have:=zyX (decide (x<0)) (dig x.natAbs) (decide (y<0)) (dig y.natAbs) ha hb;rwa[Zn,Zn]at this
theorem zxz{x y:Int}:(decide (x<0)=decide (y<0)/\dig x.natAbs=dig y.natAbs)↔x=y:=by
 refine⟨fun⟨h,h'⟩=>?_,fun h=>by rw[h];exact⟨rfl,rfl⟩⟩;have h2:x.natAbs=y.natAbs:=by rw[<-zaX x.natAbs,h',zaX]
 rw[waG]at h;omega
theorem znt(x y:Int)(ha:lN x<30000000000000)(hb:lN y<30000000000000):Q7 prog 27 [eI x,eI y] (tB (decide (x=y))):=by
 have:=zws (decide (x<0)) (dig x.natAbs) (decide (y<0)) (dig y.natAbs) ha hb
 rwa[show decide (decide (x<0)=decide (y<0)/\dig x.natAbs=dig y.natAbs)=decide (x=y)from waG.2 zxz]at this
theorem zdJ(x:Int)(hl:lN x<30000000000000):Q7 prog 35 [eI x] (tI .i64 x.sign):=by
 have:=zfp (decide (x<0)) (dig x.natAbs) hl;rwa[Zn]at this
theorem zbN(x:Int)(hl:lN x<10000000000000):Q7 prog 82 [eI x] (eI (-x)):=by
 have:=zrl (decide (x<0)) (dig x.natAbs) hl;rwa[Zn]at this
theorem zvO(x:Int)(hl:lN x<10000000000000):Q7 prog 162 [eI x] (eI (x.natAbs:Int)):=by
 have:=zmo (decide (x<0)) (dig x.natAbs) hl;rwa[Zn]at this
theorem zdf(x y:Int)(ha:lN x<2000000000000)(hb:lN y<2000000000000):Q7 prog 81 [eI x,eI y] (eI (x+y)):=by
 have:=zjY (decide (x<0)) (dig x.natAbs) (decide (y<0)) (dig y.natAbs) ha hb;rwa[Zn,Zn]at this
theorem zer(x y:Int)(ha:lN x<2000000000000)(hb:lN y<2000000000000):Q7 prog 130 [eI x,eI y] (eI (x-y)):=by
 have:=zy3 (decide (x<0)) (dig x.natAbs) (decide (y<0)) (dig y.natAbs) ha hb;rwa[Zn,Zn]at this
theorem zdM(x y:Int)(ha:lN x<2000000000000)(hb:lN y<2000000000000):Q7 prog 136 [eI x,eI y] (eI (x*y)):=by
 have:=zms (decide (x<0)) (dig x.natAbs) (decide (y<0)) (dig y.natAbs) ha hb;rwa[Zn,Zn]at this
theorem zgf(x y:Int)(ha:lN x<10000000000000)(hb:lN y<10000000000000):Q7 prog 79 [eI x,eI y] (tI .i64 (Za x y)):=by
 have:=zrt (decide (x<0)) (dig x.natAbs) (decide (y<0)) (dig y.natAbs) (wdb ha (by decide)) (wdb hb (by decide));rwa[Zn,Zn]at this
theorem ziV(x y:Int)(ha:lN x<10000000000000)(hb:lN y<10000000000000):Q7 prog 118 [eI x,eI y] (tB (decide (x=y))):=by
 have:=zyv (decide (x<0)) (dig x.natAbs) (decide (y<0)) (dig y.natAbs) (wdb ha (by decide)) (wdb hb (by decide));rwa[Zn,Zn]at this
theorem zej(x y:Int)(ha:lN x<10000000000)(hb:lN y<10000000000):Q7 prog 116 [eI x,eI y] (.tup [eI (Int.fdiv x y),eI (Int.fmod x y)]):=by
 have:=zwB (decide (x<0)) (dig x.natAbs) (decide (y<0)) (dig y.natAbs) ha hb;rwa[Zn,Zn]at this
theorem zbP(n:Int)(h1 : -9223372036854775808<=n)(h2:n<9223372036854775808):Q7 prog 106 [tI .i64 n] (eI n):=w_Of n h1 h2
@[go_sem] theorem zzz{P:Program}{m:Nat}{σ:St}{K:AV->St->Prop}{d ty:Nat}{pos:String}{af:Array Edge}{g:Option (Nat×Bool)}{t:TypeId}{n i:Nat}{v:Value}{ps:List (Nat×Operand)}(hn:n≠0) :
  QV P m ⟨some d,.buildSlice t n ((i,.const v)::ps).toArray,ty,pos,af,g⟩ σ K =
  ((tok P t=true/\isSliceD (tdesc P t)=true/\tok P (telem P t)=true/\n*tsize P (telem P t)<=2^24/\0<n*tsize P (telem P t)/\((tzero P (telem P t)).map (·.length))=some (tsize P (telem P t)) /\
   (zb7 P t n (((i,Operand.const v)::ps).map fun p=>(p.1,ev σ.s p.2))).isSome=true)/\K ((zb7 P t n (((i,Operand.const v)::ps).map fun p=>(p.1,ev σ.s p.2))).getD .junk) σ):=zrN hn rfl
theorem zv2(s:Bool)(a:List Nat)(t:Bool)(b:List Nat)(ha:a.length<100000000000)(hb:b.length<100000000000):Q7 prog 23 [gI s a,gI t b] (.tup [eI (Int.fdiv (iv s a) (iv t b)),eI (Int.fmod (iv s a) (iv t b))]):=by
 refine QH QB call23 func23 rfl ntmps23 results23 (by simp) (by decide) ?_;simp only[go_sem];refine Q3 0 rfl ?_;simp only[go_sem];refine Q2 (zcD s a (by omega)) rfl ?_;simp only[go_sem];refine Q2 (zcD t b (by omega)) rfl ?_;have VZ:=zav s a;have UH:=zav t b;generalize iv s a=x at *
 generalize iv t b=y at *
 simp only[go_sem];refine Q2 (ziU y (by omega)) rfl ?_;by_cases hy:y=0
 .subst hy
  have e0:(0:Int).sign=0:=rfl;rw[wdn,wdo];simp only[go_sem,e0];refine zwT 0 [(4,4),(6,6)] rfl (by simp only[zsS,ztS];refine⟨⟨0,?_⟩,⟨0,?_⟩,trivial⟩<;>simp only[go_sem]) ?_;simp only[go_sem];rw[zlQ];exact zao (Zc .t .weak) (Zc .t .t)
 .have hne:¬y.sign=0:=fun e=>hy (wbR.1 e)
  have Ge:=zn8 (dig x.natAbs) (dig y.natAbs) (by unfold lN at *;omega) (by unfold lN at *;omega);rw[Zk,Zk]at Ge;have law:=(ziv x y hy).1;have L7:Int.fmod x y=x-Int.fdiv x y*y:=by have:=Int.fmod_def x y;rw[this,waz]
  have Vs:(dig (x.natAbs/y.natAbs)).length<=lN x:=zaz (wbV (wb3 ..) (zbo x));have Fs:lN (Int.fdiv x y)<=lN x+1:=by
   apply zbS;have h1:=zbo x;have h2:x.natAbs/y.natAbs<=x.natAbs:=wb3 ..;have h3:(Int.fdiv x y).natAbs<=x.natAbs/y.natAbs+1:=by
    rw[law];unfold zbe;split<;>split<;>simp only[wbU,wbe]<;>omega
   have h4:0<BB^lN x:=waR (by decide);rw[zkh];omega
  have Jw:=ZS (Int.fdiv x y) y;have VI:=zpb (Int.fdiv x y) y (by omega) (by omega);have YL:=zvM x (Int.fdiv x y*y) (by omega) (by omega);rw[<-L7]at YL;by_cases Vg:(decide (x<0) != decide (y<0))=true/\x.natAbs%y.natAbs≠0
  .have XI:=zkT (dig (x.natAbs/y.natAbs)) [1] (by omega) (by simp)
   have Vt:vN [1]=1:=by unfold vN;simp[held,IsN,BB,val]
   rw[Zk,Vt]at XI;have hn:Int.fdiv x y = -((x.natAbs/y.natAbs+1:Nat):Int):=by
    rw[law,Qc Vg.1];unfold zbe;rw[Qc Vg]
   have YR:=zeH true (dig (x.natAbs/y.natAbs+1));have e1:gI (true&&decide (dig (x.natAbs/y.natAbs+1)≠[])) (dig (x.natAbs/y.natAbs+1))=eI (Int.fdiv x y):=by
    unfold eI;rw[hn,wbU,wbe];congr 1;generalize x.natAbs/y.natAbs=q;rw[waP];simp[Yc]
   rw[e1]at YR;have UA:(0:Int)<((dig (x.natAbs%y.natAbs)).length:Int):=by
    have:(dig (x.natAbs%y.natAbs)).length≠0:=fun e=>by
     have:=Yc.1 (wbd.1 e);omega
    omega
   simp only[go_sem,hne];refine Q2 Ge rfl ?_;have hb:(decide (x<0)==decide (y<0))=false:=by have:=Vg.1;revert this;cases decide (x<0)<;>cases decide (y<0)<;>simp
   simp only[go_sem,hb,UA];refine zfe (tvs':=[tN (dig (x.natAbs/y.natAbs)),.one (.seq (some false) [[.lit (.int .u32 1)]])]) XI rfl (.cons fzT (.cons fzW .nil)) ?_;simp only[go_sem];refine Q2 YR rfl ?_;simp only[go_sem];refine Q3 0 rfl ?_;simp only[go_sem];refine Q2 VI rfl ?_;simp only[go_sem];refine Q2 YL rfl ?_;simp only[go_sem];exact zao (Zc .t .t) (Zc .t .t)
  .have hn:Int.fdiv x y=(if(decide (x<0) != decide (y<0))=true then -((x.natAbs/y.natAbs:Nat):Int)else((x.natAbs/y.natAbs:Nat):Int)):=by
    rw[law];unfold zbe;rw[Qb Vg]
   have YR:=zeH (decide (x<0) != decide (y<0)) (dig (x.natAbs/y.natAbs));have e1:gI ((decide (x<0) != decide (y<0))&&decide (dig (x.natAbs/y.natAbs)≠[])) (dig (x.natAbs/y.natAbs))=eI (Int.fdiv x y):=by
    unfold eI;rw[hn];generalize x.natAbs/y.natAbs=q;generalize (decide (x<0) != decide (y<0))=bb;cases bb with
    |false=>simp
    |true =>
     simp only[wbD,if_true,wbU,wbe];congr 1;rw[waG,ne_eq,Yc];omega
   rw[e1]at YR;simp only[go_sem,hne];refine Q2 Ge rfl ?_;by_cases hd:(decide (x<0) != decide (y<0))=true
   .have UA:¬(0:Int)<((dig (x.natAbs%y.natAbs)).length:Int):=by
     have:x.natAbs%y.natAbs=0:=by
      by_cases h:x.natAbs%y.natAbs=0
      .exact h
      .exact Qn ⟨hd,h⟩ Vg
     rw[this,Zg];simp
    rw[hd]at YR;have hb:(decide (x<0)==decide (y<0))=false:=by revert hd;cases decide (x<0)<;>cases decide (y<0)<;>simp
    simp only[go_sem,hb,UA];refine Q2 YR rfl ?_;simp only[go_sem];refine Q3 0 rfl ?_;simp only[go_sem];refine Q2 VI rfl ?_;simp only[go_sem];refine Q2 YL rfl ?_;simp only[go_sem];exact zao (Zc .t .t) (Zc .t .t)
   .rw[Bool.not_eq_true]at hd
    rw[hd]at YR;have hb:(decide (x<0)==decide (y<0))=true:=by revert hd;cases decide (x<0)<;>cases decide (y<0)<;>simp
    simp only[go_sem,hb];refine Q2 YR rfl ?_;simp only[go_sem];refine Q3 0 rfl ?_;simp only[go_sem];refine Q2 VI rfl ?_;simp only[go_sem];refine Q2 YL rfl ?_;simp only[go_sem];exact zao (Zc .t .t) (Zc .t .t)
theorem zs8(x y:Int)(ha:lN x<100000000000)(hb:lN y<100000000000):Q7 prog 23 [eI x,eI y] (.tup [eI (Int.fdiv x y),eI (Int.fmod x y)]):=by
 have:=zv2 (decide (x<0)) (dig x.natAbs) (decide (y<0)) (dig y.natAbs) ha hb;rwa[Zn,Zn]at this
theorem zzl(s:Bool)(a:List Nat)(t:Bool)(b:List Nat)(ha:a.length<100000000000)(hb:b.length<100000000000):Q7 prog 21 [gI s a,gI t b] (eI (Int.gcd (iv s a) (iv t b):Int)):=by
 refine QH QB call21 func21 rfl ntmps21 results21 (by simp) (by decide) ?_;simp only[go_sem];refine Q3 0 rfl ?_;simp only[go_sem];have VZ:=zav s a;have UH:=zav t b;refine Q2 (zrn s a (by omega)) rfl ?_;simp only[go_sem];refine Q2 (zrn t b (by omega)) rfl ?_;generalize iv s a=x at *
 generalize iv t b=y at *
 have e0:∀ z:Int,eI (z.natAbs:Int)=gI false (dig z.natAbs):=fun z=>by
  unfold eI;rw[show((z.natAbs:Int)).natAbs=z.natAbs by omega,wan (by omega)]
 have e3:eI (Int.gcd x y:Int)=gI false (dig (Nat.gcd x.natAbs y.natAbs)):=by
  unfold Int.gcd eI;rw[wbe,wan (by omega)]
 unfold lN at VZ UH;rw[e3];generalize x.natAbs=m at *
 generalize y.natAbs=n at *
 simp only[go_sem];refine QJ (fun p:Nat×Nat=>stL 28 [(4,.one (.ptr 4 0)),(5,aN (dig p.1)),(6,aN (dig p.2))] [(4,[.t (.lit (.bool false)),.t (.seq (some true) [])])]) (fun p=>(dig p.1).length<100000000000/\(dig p.2).length<100000000000/\Nat.gcd p.1 p.2=Nat.gcd m n) (fun p=>p.2) (m,n) ?_ ⟨by show(dig m).length<_;omega,by show(dig n).length<_;omega,rfl⟩ ?_
 .refine Q6 rfl ?_ ?_ rfl rfl<;>simp only[go_sem]<;>simp
 .rintro⟨x,y⟩ ⟨hx,hy,hg⟩
  simp only at hx hy hg ⊢;simp only[go_sem];refine QI (fun h=>?_) (fun h=>?_)
  .have XH:y≠0:=by rintro rfl;simp[Zg]at h
   have UN:=zn8 (dig x) (dig y) (by omega) (by omega);rw[Zk,Zk]at UN;simp only[go_sem];refine Q2 UN rfl ?_;simp only[go_sem];have Y1:=waw x (wbG XH);have Gk:=Yu (zcQ y);rw[zaX]at Gk;have hl:(dig (x%y)).length<=(dig y).length:=zaz (by omega);refine⟨(y,x%y),⟨hy,(by show(dig (x%y)).length<100000000000;omega),by show Nat.gcd y (x%y)=_;rw[<-hg,wcm y,<-Nat.gcd_rec,wcm]⟩,Y1,?_⟩;refine Q6 rfl ?_ ?_ rfl rfl<;>simp only[go_sem]<;>simp
  .have XH:y=0:=by
    have:(dig y).length=0:=by omega
    exact Yc.1 (wbd.1 this)
   subst XH;rw[wdQ]at hg;subst hg;simp only[go_sem];exact Zc .t .t
theorem zp4(x y:Int)(ha:lN x<100000000000)(hb:lN y<100000000000):Q7 prog 21 [eI x,eI y] (eI (Int.gcd x y:Int)):=by
 have:=zzl (decide (x<0)) (dig x.natAbs) (decide (y<0)) (dig y.natAbs) ha hb;rwa[Zn,Zn]at this
theorem zjN(x y:Int):lN (Int.gcd x y:Int)<=lN x+lN y:=by
 apply zbS;rw[wbe,wbl];have h1:=zbo x;have h2:=zbo y;by_cases hx:x=0
 .subst hx
  rw[show Int.gcd 0 y=y.natAbs by simp];have h3:0<BB^lN 0:=waR (by decide);exact wbf h2 (wcE _ h3)
 .have:Int.gcd x y<=x.natAbs:=Nat.gcd_le_left _ (by omega)
  have h3:0<BB^lN y:=waR (by decide);exact wbf (wbV this h1) (wb8 _ h3)
theorem ZQ{z:Int}(h:z.natAbs<1000000000):lN z<=1:=zbS (by rw[Nat.pow_one];exact h)
theorem zbT{P:Program}{f:FuncId}{xs:List TV}{p:Prop}[Decidable p](h:Q7 P f xs (tB (decide p)))(hp:p):Q7 P f xs (tB true):=by rwa[waC hp]at h
theorem zdn{P:Program}{f:FuncId}{xs:List TV}{p:Prop}[Decidable p](h:Q7 P f xs (tB (decide p)))(hp:¬p):Q7 P f xs (tB false):=by rwa[wan hp]at h
theorem zjg{x y:Int}(h:x<=y):Za x y<=0:=by
 unfold Za;repeat' split
 all_goals omega
theorem zwb{x y:Int}(h:x<y):Za x y = -1:=by unfold Za;rw[Qc h]
theorem zjh{x y:Int}(h:y<x):Za x y=1:=by unfold Za;rw[Qb (by omega),Qc h]
theorem ztc{x:Int}:x.sign=0↔x=0:=wbR
theorem _root_.Go.Abs.RC.weakS{w:World}{ok:Nat->Prop}{ρ:Nat->Option Nat}{nl:Option Bool}{xs:List (List T)}{v:Value}(h:RC w ok ρ (.t (.seq nl xs)) v):RC w ok ρ (.t (.seq none xs)) v:=by
 cases h with
 |t h=>cases h with
  |seq g1 g2 g0 g3 g4 g5 g6 g7 g8=>exact .t (.seq g1 g2 g0 (fun e=>by cases e) (fun e=>by cases e) g5 g6 g7 g8)
theorem zur(x:Int){y:Int}(hy:y≠0):x%y<(y.natAbs:Int):=by
 by_cases h:0<y
 .have:=Int.emod_lt_of_pos x h;omega
 .have:=Int.emod_lt_of_pos x (show 0 < -y by omega)
  rw[Int.emod_neg]at this;omega
theorem zDD(x y:Int):lN (x%y)<=max (lN x) (lN y):=by
 by_cases hy:y=0
 .subst hy;rw[Int.emod_zero];omega
 .have h1:=Int.emod_nonneg x hy
  have h2:=zur x hy;have:lN (x%y)<=lN y:=zeI (by omega);omega
theorem zwc{m n:Nat}{up:Bool}(hn:0<n):zb5 m n up<n:=by
 have:=waw m hn;unfold zb5;split<;>omega
theorem zwd{m n:Nat}{up:Bool}:zbe m n up<=m+1:=by
 have:=wb3 m n;unfold zbe;split<;>omega
theorem zas(x y:Int):lN (Int.fdiv x y)<=lN x+1:=by
 by_cases hy:y=0
 .subst hy;rw[wdn];unfold lN;simp[Zg]
 .apply zbS
  have h1:=zbo x;have law:=(ziv x y hy).1;have h2:=zwd (m:=x.natAbs) (n:=y.natAbs) (up:=decide (x<0) != decide (y<0));generalize zbe x.natAbs y.natAbs (decide (x<0) != decide (y<0))=q at *
  have h3:(Int.fdiv x y).natAbs=q:=by rw[law];split<;>simp only[wbU,wbe]
  have h4:0<BB^lN x:=waR (by decide);rw[zkh];omega
theorem zsy(x:Int){y:Int}(hy:y≠0):Int.fmod x y=0\/((Int.fmod x y).sign=y.sign/\(Int.fmod x y).natAbs<y.natAbs):=by
 have law:=(ziv x y hy).2;have h2:=zwc (m:=x.natAbs) (n:=y.natAbs) (up:=decide (x<0) != decide (y<0)) (by omega);generalize zb5 x.natAbs y.natAbs (decide (x<0) != decide (y<0))=r at *
 rw[law];by_cases hr:r=0
 .left;subst hr;split<;>rfl
 .right
  split
  .rename_i h
   refine⟨?_,by rw[wbU,wbe];exact h2⟩;rw[wcq h,wcq (by omega)]
  .rename_i h
   refine⟨?_,by rw[wbe];exact h2⟩;rw[wbQ (show 0<y by omega),wbQ (by omega)]
theorem zwe(x y:Int):lN (Int.fmod x y)<=max (lN x) (lN y):=by
 by_cases hy:y=0
 .subst hy;rw[wdo];omega
 .have:lN (Int.fmod x y)<=lN y:=zeI (by rcases zsy x hy with h|⟨_,h⟩<;>omega)
  omega
theorem zdO{x:Int}(h:x≠0):¬x.sign=0:=fun e=>h (ztc.1 e)
theorem ZG:lN 0=0:=by unfold lN;simp[Zg]
def cI(p:Bool×List Nat):List T:=[.lit (.bool p.1),eN p.2]
theorem ZO(p:Bool×List Nat):(cI p).length=2:=rfl
abbrev tLI(l:List (Bool×List Nat)):TV:=.one (eL cI l)
abbrev aLI(l:List (Bool×List Nat)):AV:=.one (.t (eL cI l))
def gAll(l:List (Bool×List Nat)):Nat:=l.foldl (fun g p=>Nat.gcd (iv p.1 p.2).natAbs g) 0
theorem znY{l:List (Bool×List Nat)}{p:Bool×List Nat}:gAll (l++[p])=Nat.gcd (iv p.1 p.2).natAbs (gAll l):=by unfold gAll;rw[wch];rfl
theorem zpa{N:Nat}:∀ (l:List (Bool×List Nat)),(∀ p∈l,p.2.length<=N)->(dig (gAll l)).length<=N:=by
 intro l
 suffices h:∀ (l:List (Bool×List Nat)) (g:Nat),(dig g).length<=N->(∀ p∈l,p.2.length<=N)->(dig (l.foldl (fun g p=>Nat.gcd (iv p.1 p.2).natAbs g) g)).length<=N from
  fun hl=>h l 0 (by simp[Zg]) hl
 intro l
 induction l with
 |nil=>intro g hg _;exact hg
 |cons p l ih =>
  intro g hg hl;refine ih _ ?_ (fun q hq=>hl q (by simp[hq]));have hp:=zav p.1 p.2;have Lp:=hl p (by simp);have h1:=zbo (iv p.1 p.2);have Gr:=Yu (zcQ g);rw[zaX]at Gr;have Y1:Nat.gcd (iv p.1 p.2).natAbs g<BB^max (lN (iv p.1 p.2)) (dig g).length:=by
   by_cases hz:(iv p.1 p.2).natAbs=0
   .rw[hz,Nat.gcd_zero_left]
    exact wbf Gr (waW (by decide) (wbO ..))
   .exact wbV (Nat.gcd_le_left _ (by omega)) (wbf h1 (waW (by decide) (wbT ..)))
  exact Qo (zaz Y1) (by omega)
theorem zry(l:List (Bool×List Nat))(hl:l.length<10000000000000)(hp:∀ p∈l,p.2.length<100000000000):Q7 prog 169 [tLI l] (eI (gAll l:Int)):=by
 refine QH QB call169 func169 rfl ntmps169 results169 (by simp) (by decide) ?_;simp only[go_sem];have e3:eI (gAll l:Int)=gI false (dig (gAll l)):=by
  unfold eI;rw[wbe,wan (by omega)]
 rw[e3];refine QJ (fun i:Nat=>stL 20 [(2,.one (.ptr 2 0)),(3,aN (dig (gAll (l.take i)))),(6,aLI l),(7,litI .i64 l.length),(8,litI .i64 i)] [(2,[.t (.lit (.bool false)),.t (.seq (some true) [])])]) (fun i=>i<=l.length) (fun i=>l.length-i) 0 ?_ (Qk _) ?_
 .refine GStep.trans (zik 3 (nl:=some true) (xs:=[]) (by simp only[go_sem])) ?_
  rw[was,show gAll []=0 from rfl,Zg];refine Q6 rfl ?_ ?_ rfl rfl<;>simp only[go_sem]<;>simp;all_goals rfl
 .intro i hi
  simp only[go_sem];refine QI (fun Y1=>?_) (fun YI=>?_)
  .have Yz:i<l.length:=by omega
   have Y5:QP cI l i=cI l[i]:=Q8 Yz;have Y4:=hp _ (Qf Yz);have Vw:=zpa (N:=99999999999) (l.take i) (fun p DS=>by have:=hp p (waU DS);omega);have Gw:=zmo l[i].1 l[i].2 (by omega);have e0:∀ z:Int,eI (z.natAbs:Int)=gI false (dig z.natAbs):=fun z=>by
    unfold eI;rw[show((z.natAbs:Int)).natAbs=z.natAbs by omega,wan (by omega)]
   rw[e0]at Gw;have Vo:=zav l[i].1 l[i].2;unfold lN at Vo;have Om:=zxL (iv l[i].1 l[i].2).natAbs (gAll (l.take i)) (by omega) (by omega);rw[<-znY,<-Zl Yz]at Om
   (iterate 3((try simp only[go_sem,Y5,cI]);try simp(disch:=omega)only[Q4,QC,QD,Q8,Y5,cI]))
   refine⟨by omega,?_⟩;refine Q2 Gw rfl ?_
   (iterate 3((try simp only[go_sem]);try simp(disch:=omega)only[Q4,QC,QD,Q8]))
   refine Q2 Om rfl ?_
   (iterate 3((try simp only[go_sem]);try simp(disch:=omega)only[Q4]))
   refine⟨i+1,Yz,(by show l.length-(i+1)<l.length-i;omega),?_⟩;refine Q6 rfl ?_ ?_ rfl rfl<;>(iterate 3((try simp only[go_sem]);try simp(disch:=omega)only[Q4,QC,QD,Q8]))<;>simp
  .have:i=l.length:=by omega
   subst this;rw[waa];simp only[go_sem];exact Zc .t .t
theorem zyJ(l:List (Bool×List Nat))(hl:l.length<10000000000000)(hp:∀ p∈l,p.2.length<100000000000):Q7 prog 151 [tLI l] (eI (gAll l:Int)):=by
 refine QH QB call151 func151 rfl ntmps151 results151 (by simp) (by decide) ?_;simp only[go_sem];refine Q2 (zry l hl hp) rfl ?_;simp only[go_sem];exact Zc .t .t
theorem zuc(s:Bool)(a:List Nat)(t:Bool)(b:List Nat):gAll [(s,a),(t,b)]=Int.gcd (iv s a) (iv t b):=by
 show Nat.gcd (iv t b).natAbs (Nat.gcd (iv s a).natAbs 0)=_;rw[wdQ,wcm];rfl
theorem g_Of(s:Bool)(a:List Nat)(t:Bool)(b:List Nat)(ha:a.length<100000000000)(hb:b.length<100000000000):Q7 prog 167 [gI s a,gI t b] (eI (Int.gcd (iv s a) (iv t b):Int)):=by
 refine QH QB call167 func167 rfl ntmps167 results167 (by simp) (by decide) ?_;simp only[go_sem];have hall:=zry [(s,a),(t,b)] (by simp) (by simp;omega);rw[zuc]at hall;refine ziM 7 2 [.t (.lit (.bool false)),.t (.seq (some true) [])] (cs:=Q5 cI [(s,a),(t,b)]) rfl (Qd _) (by simp only[go_sem]<;>decide) (by simp only[go_sem]<;>rfl) (by simp only[go_sem]) (by decide) ?_;simp only[go_sem];refine zcd 7 2 2 rfl hall (by simp only[go_sem]<;>rfl) (Yp (f:=cI) (xs:=[(s,a),(t,b)]) ZO) ?_ ?_
 .simp only[go_sem]<;>rfl
 .simp only[go_sem]
  exact Zc .t .t
end Go.Proofs.YtlgjjcmljmjenaaGreat
