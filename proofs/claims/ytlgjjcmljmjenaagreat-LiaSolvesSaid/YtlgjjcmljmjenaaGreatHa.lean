/- At every input the call answers true and leaves its arguments as they were; no conditions. -/
import Derived.Test.YtlgjjcmljmjenaaGreatFa
import Derived.Test.YtlgjjcmljmjenaaGreatFb
set_option linter.unusedSimpArgs false
set_option linter.unusedVariables false
set_option maxRecDepth 100000
set_option maxHeartbeats 4000000
namespace Go.Proofs.YtlgjjcmljmjenaaGreat
open Go Go.Abs Go.Proofs.Tryz
abbrev gI(neg:Bool)(mag:List Nat):TV:=.agg [.lit (.bool neg),eN mag]
abbrev gS(l:List Nat)(neg:Bool):TV:=.agg [eN l,.lit (.bool neg)]
abbrev gZ(l:List Nat):TV:=.agg [eN l]
def IsI(neg:Bool)(mag:List Nat):Prop:=IsN mag/\(mag≠[]\/neg=false)
instance {neg:Bool} {mag:List Nat}:Decidable (IsI neg mag):=by unfold IsI;exact inferInstance
theorem Zk{H:QD}{a b:C}{x y:T}(h1:FzC H a x)(h2:FzC H b y):FzA H (.agg [a,b]) (.agg [x,y]):=.agg rfl fun j h h'=>by
 match j,h,h' with
 |0,_,_=>exact h1
 |1,_,_=>exact h2
 |j+2,h,_=>simp at h;omega
theorem zgt(l:List Nat):Q9 prog 63 [gZ l] (tB (decide (l.length=0))):=by
 refine QJ QC call63 func63 rfl ntmps63 results63 (by simp) (by decide) ?_;simp only[go_sem];rw[wax];omega
theorem zjU(neg:Bool)(mag:List Nat)(hl:mag.length<30000000000000):Q9 prog 74 [gI neg mag] (tB (decide (IsI neg mag))):=by
 refine QJ QC call74 func74 rfl ntmps74 results74 (by simp) (by decide) ?_;simp only[go_sem];refine Q3 (zkX mag hl) rfl ?_;by_cases h:IsN mag
 .cases mag with
  |nil =>
   cases neg
   .simp only[go_sem,h]
    simp[IsI,h]
   .simp only[go_sem,h]
    simp[IsI]
  |cons x l =>
   have hp:(0:Int)<(l.length:Int)+1:=by omega
   simp only[go_sem,h,hp];simp[IsI,h]
 .simp only[go_sem,h]
  simp[IsI,h]
theorem zjV(neg:Bool)(mag:List Nat)(hl:mag.length<30000000000000):Q9 prog 62 [gI neg mag] (if IsI neg mag then gS mag neg else gS [] false):=by
 refine QJ QC call62 func62 rfl ntmps62 results62 (by simp) (by decide) ?_;simp only[go_sem];refine Q3 (zjU neg mag hl) rfl ?_;by_cases h:IsI neg mag
 .rw[Qc h]
  simp only[go_sem,h];exact Zk .t .t
 .rw[Qb h]
  simp only[go_sem,h];exact Zk .weak .t
theorem zcy(l:List Nat)(neg:Bool):Q9 prog 123 [gS l neg] (gI (neg&&decide (l≠[])) l):=by
 refine QJ QC call123 func123 rfl ntmps123 results123 (by simp) (by decide) ?_;simp only[go_sem];refine Q4 0 rfl ?_;cases neg with
 |false =>
  simp only[go_sem];exact Zk .t .t
 |true =>
  simp only[go_sem];refine Q3 (zgt l) rfl ?_;have e:(!decide (l.length=0))=decide (¬l=[]):=by cases l<;>simp
  simp only[go_sem,e];exact Zk .t .t
theorem w_Of(n:Int)(h1 : -9223372036854775808<=n)(h2:n<9223372036854775808):Q9 prog 106 [tI .i64 n] (gI (decide (n<0)) (dig n.natAbs)):=by
 refine QJ QC call106 func106 rfl ntmps106 results106 (by simp) (by decide) ?_;simp only[go_sem];have Gj:n.natAbs<18446744073709551616:=by omega
 have Xy:=ziX n.natAbs Gj;have Vx:(dig n.natAbs=[])↔n=0:=by rw[Yt];omega
 refine QI (fun hn=>?_) (fun hn=>?_)
 .have hw:IntKind.wrap .u64 (0-IntKind.wrap .u64 n)=(n.natAbs:Int):=by
   unfold IntKind.wrap;simp[IntKind.signed,IntKind.bits];omega
  have Xg:=zcy (dig n.natAbs) true;rw[show(true&&decide (dig n.natAbs≠[]))=true by simp[Vx];omega]at Xg;simp only[go_sem,hn,hw];refine Q3 Xy rfl ?_;simp only[go_sem,hn];refine Q3 Xg rfl ?_;simp only[go_sem];exact Zk .t .t
 .have hw:IntKind.wrap .u64 n=(n.natAbs:Int):=by rw[QE (by omega) (by omega)];omega
  have Xg:=zcy (dig n.natAbs) false;rw[show(false&&decide (dig n.natAbs≠[]))=false from rfl]at Xg;simp only[go_sem,hn,hw];refine Q3 Xy rfl ?_;simp only[go_sem,hn];refine Q3 Xg rfl ?_;simp only[go_sem];exact Zk .t .t
def iv(neg:Bool)(mag:List Nat):Int:=if IsI neg mag then(if neg then -(val mag:Int)else val mag)else 0
theorem zo7{neg:Bool}{mag:List Nat}(h:IsI neg mag):(iv neg mag).sign=if mag.length=0 then 0 else if neg then -1 else 1:=by
 unfold iv;rw[Qc h];by_cases h0:mag.length=0
 .have:mag=[]:=wbd.1 h0
  subst this;cases neg<;>simp[val]
 .rw[Qb h0]
  have hp:0<val mag:=wbN fun e=>h0 (by rw[(zia h.1).1 e];rfl)
  cases neg
  .have:(val mag:Int).sign=1:=wbJ (by omega)
   simpa using this
  .have:(val mag:Int).sign=1:=wbJ (by omega)
   simp[this]
theorem zfi(neg:Bool)(mag:List Nat)(hl:mag.length<30000000000000):Q9 prog 35 [gI neg mag] (tI .i64 (iv neg mag).sign):=by
 refine QJ QC call35 func35 rfl ntmps35 results35 (by simp) (by decide) ?_;simp only[go_sem];have Xy:=zjV neg mag hl;by_cases h:IsI neg mag
 .rw[Qc h]at Xy
  rw[zo7 h];refine Q3 Xy rfl ?_;simp only[go_sem];refine Q3 (zgt mag) rfl ?_;by_cases h0:mag.length=0
  .simp only[go_sem,h0]
  .simp only[go_sem,h0]
   cases neg
   .simp only[go_sem]
   .simp only[go_sem]
 .rw[Qb h]at Xy
  have e:iv neg mag=0:=Qb h;rw[e];refine Q3 Xy rfl ?_;simp only[go_sem];refine Q3 (zgt []) rfl ?_;simp only[go_sem];rfl
theorem zo8{neg:Bool}{mag:List Nat}(h:IsI neg mag):vN mag=val mag:=by unfold vN;rw[held,Qc h.1]
theorem zgD(x:Int):(x<0/\x.sign = -1)\/(x=0/\x.sign=0)\/(0<x/\x.sign=1):=by
 rcases wbH x 0 with h|h|h
 .exact .inl ⟨h,wcl h⟩
 .subst h;exact .inr (.inl ⟨rfl,rfl⟩)
 .exact .inr (.inr ⟨h,wbJ h⟩)
theorem zq1{s:Bool}{a:List Nat}(h:iv s a<0):iv s a = -(vN a:Int)/\IsI s a:=by
 by_cases hI:IsI s a
 .rw[zo8 hI];unfold iv at h ⊢
  rw[Qc hI]at h ⊢;cases s
  .simp at h;omega
  .exact⟨rfl,hI⟩
 .unfold iv at h;rw[Qb hI]at h;omega
theorem znF{s:Bool}{a:List Nat}(h:0<=iv s a):∃ l,(if IsI s a then gS a s else gS [] false)=gS l (if IsI s a then s else false)/\l.length<=a.length/\iv s a=(vN l:Int):=by
 by_cases hI:IsI s a
 .refine⟨a,by rw[Qc hI,Qc hI],Qd _,?_⟩
  rw[zo8 hI];unfold iv at h ⊢;rw[Qc hI]at h ⊢;cases s
  .rfl
  .simp at h ⊢;omega
 .refine⟨[],by rw[Qb hI,Qb hI],Qk _,?_⟩
  unfold iv;rw[Qb hI];rfl
theorem zrA(s:Bool)(a:List Nat)(t:Bool)(b:List Nat)(ha:a.length<30000000000000)(hb:b.length<30000000000000):Q9 prog 79 [gI s a,gI t b] (tI .i64 (QY (iv s a) (iv t b))):=by
 refine QJ QC call79 func79 rfl ntmps79 results79 (by simp) (by decide) ?_;simp only[go_sem];refine Q4 0 rfl ?_;simp only[go_sem];refine Q3 (zfi s a ha) rfl ?_;simp only[go_sem];refine Q3 (zfi t b hb) rfl ?_;simp only[go_sem];have h1:=zgD (iv s a);have h2:=zgD (iv t b);have MK:=zjV s a ha;have EY:=zjV t b hb;have gn:=@zq1 s a;have gn2:=@zq1 t b;have gp:=@znF s a;have gp2:=@znF t b;generalize iv s a=x at *
 generalize iv t b=y at *
 generalize x.sign=sx at *
 generalize y.sign=sy at *
 refine QI (fun hne=>?_) (fun Jp=>?_)
 ·(iterate 3((try simp only[go_sem]);try simp(disch:=omega)only[Q6]))
  skip;try simp only[go_sem]
  refine zdK rfl (by simp only[go_sem]<;>rfl) (by simp only[go_sem]<;>rfl) (Qd _) ?_;simp only[go_sem];unfold QY
  repeat' split
  all_goals omega
 .have Li:sx=sy:=by omega
  subst Li;simp only[go_sem];refine QI (fun Yw=>?_) (fun YG=>?_)
  .have hx:=(gn (by omega)).1
   have hy:=(gn2 (by omega)).1;simp only[go_sem];refine Q3 (zfT b a hb ha) rfl ?_;simp only[go_sem];unfold QY
   repeat' split
   all_goals omega
  .obtain⟨l,e1,e2,e3⟩:=gp (by omega)
   obtain⟨l',f1,f2,f3⟩:=gp2 (by omega);rw[e1]at MK;rw[f1]at EY;simp only[go_sem];refine Q4 0 rfl ?_;simp only[go_sem];refine Q3 MK rfl ?_;simp only[go_sem];refine Q3 EY rfl ?_;simp only[go_sem];refine Q3 (zfT l l' (by omega) (by omega)) rfl ?_;simp only[go_sem];rw[e3,f3]
theorem zyF(s:Bool)(a:List Nat)(t:Bool)(b:List Nat)(ha:a.length<30000000000000)(hb:b.length<30000000000000):Q9 prog 118 [gI s a,gI t b] (tB (decide (iv s a=iv t b))):=by
 refine QJ QC call118 func118 rfl ntmps118 results118 (by simp) (by decide) ?_;simp only[go_sem];refine Q3 (zrA s a t b ha hb) rfl ?_;simp only[go_sem];rw[wax];unfold QY
 repeat' split
 all_goals omega
abbrev eI(z:Int):TV:=gI (decide (z<0)) (dig z.natAbs)
abbrev sI(z:Int):TV:=gS (dig z.natAbs) (decide (z<0))
theorem zbn(s:Bool)(a:List Nat):(dig (iv s a).natAbs).length<=a.length:=by
 unfold iv;split
 .rename_i h
  have:dig (if s=true then -(val a:Int)else(val a:Int)).natAbs=a:=by
   rw[show(if s=true then -(val a:Int)else(val a:Int)).natAbs=val a by cases s<;>simp];exact h.1.trimZ
  rw[this];exact Qd _
 .simp[Zi]
theorem zdZ(s:Bool)(a:List Nat)(hl:a.length<30000000000000):Q9 prog 62 [gI s a] (sI (iv s a)):=by
 have h:=zjV s a hl;have e:(if IsI s a then gS a s else gS [] false)=sI (iv s a):=by
  unfold iv;by_cases hI:IsI s a
  .rw[Qc hI,Qc hI]
   have e1:(if s=true then -(val a:Int)else(val a:Int)).natAbs=val a:=by cases s<;>simp
   have e2:decide ((if s=true then -(val a:Int)else(val a:Int))<0)=s:=by
    cases s
    .simp
    .have:a≠[]:=by rcases hI.2 with h|h;exact h;cases h
     have:0<val a:=wbN fun e=>this ((zia hI.1).1 e)
     simp;omega
   unfold sI;rw[e1,e2,hI.1.trimZ]
  .rw[Qb hI,Qb hI]
   simp[sI,Zi]
 rw[<-e];exact h
theorem zkR(l:List Nat)(hl:l.length<10000000000000):Q9 prog 126 [tN l] (gZ l):=by
 refine QJ QC call126 func126 rfl ntmps126 results126 (by simp) (by decide) ?_;simp only[go_sem];refine Q3 (zo5 l hl) rfl ?_;simp only[go_sem];exact .agg rfl fun j h h'=>by
  match j,h,h' with
  |0,_,_=>exact .t
  |j+1,h,_=>simp at h
theorem zrs(s:Bool)(a:List Nat)(hl:a.length<10000000000000):Q9 prog 82 [gI s a] (eI (-(iv s a))):=by
 refine QJ QC call82 func82 rfl ntmps82 results82 (by simp) (by decide) ?_;simp only[go_sem];refine Q3 (zdZ s a (by omega)) rfl ?_;have Y0:=zbn s a;generalize iv s a=z at *
 have Xg:=zcy (dig z.natAbs) (!decide (z<0));have e:((!decide (z<0))&&decide (dig z.natAbs≠[]))=decide (-z<0):=by
  rw[waU];simp[Yt];omega
 rw[e]at Xg;simp only[go_sem];refine Q4 0 rfl ?_;simp only[go_sem];refine Q3 (zkR _ (by omega)) rfl ?_;simp only[go_sem];refine Q3 Xg rfl ?_;simp only[go_sem];have e3:eI (-z)=gI (decide (-z<0)) (dig z.natAbs):=by unfold eI;rw[show(-z).natAbs=z.natAbs by omega]
 rw[e3];exact Zk .t .t
theorem zme(s:Bool)(a:List Nat)(hl:a.length<10000000000000):Q9 prog 162 [gI s a] (eI ((iv s a).natAbs:Int)):=by
 refine QJ QC call162 func162 rfl ntmps162 results162 (by simp) (by decide) ?_;simp only[go_sem];refine Q3 (zdZ s a (by omega)) rfl ?_;have Y0:=zbn s a;generalize iv s a=z at *
 have Xg:=zcy (dig z.natAbs) false;rw[show(false&&decide (dig z.natAbs≠[]))=false from rfl]at Xg;simp only[go_sem];refine Q3 (zkR _ (by omega)) rfl ?_;simp only[go_sem];refine Q3 Xg rfl ?_;simp only[go_sem];have e3:eI (z.natAbs:Int)=gI false (dig z.natAbs):=by
  unfold eI;rw[show((z.natAbs:Int)).natAbs=z.natAbs by omega,wad (by omega)]
 rw[e3];exact Zk .t .t
theorem zde{z w:Int}{b:Bool}(h:(b&&decide (dig w.natAbs≠[]))=decide (z<0))(e:z.natAbs=w.natAbs):gI (b&&decide (dig w.natAbs≠[])) (dig w.natAbs)=eI z:=by
 unfold eI;rw[h,e]
theorem zmi(s:Bool)(a:List Nat)(t:Bool)(b:List Nat)(ha:a.length<2000000000000)(hb:b.length<2000000000000):Q9 prog 136 [gI s a,gI t b] (eI (iv s a*iv t b)):=by
 refine QJ QC call136 func136 rfl ntmps136 results136 (by simp) (by decide) ?_;simp only[go_sem];refine Q4 0 rfl ?_;simp only[go_sem];refine Q3 (zdZ s a (by omega)) rfl ?_;simp only[go_sem];refine Q3 (zdZ t b (by omega)) rfl ?_;have UC:=zbn s a;have WS:=zbn t b;generalize iv s a=x at *
 generalize iv t b=y at *
 have WU:=zim (dig x.natAbs) (dig y.natAbs) (by omega) (by omega);rw[Zx,Zx,<-wbb]at WU;have Xg:=zcy (dig (x*y).natAbs) (decide (x<0) != decide (y<0));have XJ:((decide (x<0) != decide (y<0))&&decide (dig (x*y).natAbs≠[]))=decide (x*y<0):=by
  rw[waU];simp[Yt];rcases wbH x 0 with h|h|h<;>rcases wbH y 0 with h'|h'|h'<;>simp_all [wef,weg]<;>first|omega|(have:=weh h h';omega)|(have:=Int.mul_pos h h';omega)|skip
 rw[zde XJ rfl]at Xg;simp only[go_sem];refine Q4 0 rfl ?_;simp only[go_sem];refine Q3 WU rfl ?_;simp only[go_sem];refine Q3 Xg rfl ?_;simp only[go_sem];exact Zk .t .t
theorem zyv(a b:List Nat)(ha:a.length<30000000000000)(hb:b.length<30000000000000):Q9 prog 124 [gZ a,gZ b] (tB (decide (vN b<vN a))):=by
 refine QJ QC call124 func124 rfl ntmps124 results124 (by simp) (by decide) ?_;simp only[go_sem];refine Q3 (zfT a b ha hb) rfl ?_;simp only[go_sem];rw[wax];unfold QY
 repeat' split
 all_goals omega
theorem zjM(s:Bool)(a:List Nat)(t:Bool)(b:List Nat)(ha:a.length<2000000000000)(hb:b.length<2000000000000):Q9 prog 81 [gI s a,gI t b] (eI (iv s a+iv t b)):=by
 refine QJ QC call81 func81 rfl ntmps81 results81 (by simp) (by decide) ?_;simp only[go_sem];refine Q4 0 rfl ?_;simp only[go_sem];refine Q3 (zdZ s a (by omega)) rfl ?_;simp only[go_sem];refine Q3 (zdZ t b (by omega)) rfl ?_;have UC:=zbn s a;have WS:=zbn t b;generalize iv s a=x at *
 generalize iv t b=y at *
 by_cases Y4:(decide (x<0))=decide (y<0)
 .have Vf:=znj (dig x.natAbs) (dig y.natAbs) (by omega) (by omega)
  rw[Zx,Zx]at Vf;have hz:x.natAbs+y.natAbs=(x+y).natAbs:=by
   rw[wax]at Y4;omega
  rw[hz]at Vf;have Xg:=zcy (dig (x+y).natAbs) (decide (x<0));have XJ:(decide (x<0)&&decide (dig (x+y).natAbs≠[]))=decide (x+y<0):=by
   rw[wax]at Y4;rw[waU];simp only[ne_eq,wag,way,Yt];omega
  rw[zde XJ rfl]at Xg;have WY:(decide (x<0)==decide (y<0))=true:=by rw[Y4];simp
  simp only[go_sem,WY];refine Q4 0 rfl ?_;simp only[go_sem];refine Q3 Vf rfl ?_;simp only[go_sem];refine Q3 Xg rfl ?_;simp only[go_sem];exact Zk .t .t
 .have WY:(decide (x<0)==decide (y<0))=false:=by simpa using Y4
  rw[wax]at Y4;have K0:=zyv (dig x.natAbs) (dig y.natAbs) (by omega) (by omega);rw[Zx,Zx]at K0;simp only[go_sem,WY];refine Q3 K0 rfl ?_;by_cases WP:y.natAbs<x.natAbs
  .have YP:=zkj (dig x.natAbs) (dig y.natAbs) (by omega) (by omega)
   rw[Zx,Zx,show x.natAbs-y.natAbs=(x+y).natAbs by omega]at YP;have Xg:=zcy (dig (x+y).natAbs) (decide (x<0));have XJ:(decide (x<0)&&decide (dig (x+y).natAbs≠[]))=decide (x+y<0):=by
    rw[waU];simp only[ne_eq,wag,way,Yt];omega
   rw[zde XJ rfl]at Xg;simp only[go_sem,WP];refine Q4 0 rfl ?_;simp only[go_sem];refine Q3 YP rfl ?_;simp only[go_sem];refine Q3 Xg rfl ?_;simp only[go_sem];exact Zk .t .t
  .have YP:=zkj (dig y.natAbs) (dig x.natAbs) (by omega) (by omega)
   rw[Zx,Zx,show y.natAbs-x.natAbs=(x+y).natAbs by omega]at YP;have Xg:=zcy (dig (x+y).natAbs) (decide (y<0));have XJ:(decide (y<0)&&decide (dig (x+y).natAbs≠[]))=decide (x+y<0):=by
    rw[waU];simp only[ne_eq,wag,way,Yt];omega
   rw[zde XJ rfl]at Xg;simp only[go_sem,WP];refine Q4 0 rfl ?_;simp only[go_sem];refine Q3 YP rfl ?_;simp only[go_sem];refine Q3 Xg rfl ?_;simp only[go_sem];exact Zk .t .t
theorem zhw(z:Int):IsI (decide (z<0)) (dig z.natAbs):=by
 refine⟨zjb _,?_⟩;by_cases h:z<0
 .left;intro e;rw[Yt]at e;omega
 .right;simp[h]
theorem Z2(z:Int):iv (decide (z<0)) (dig z.natAbs)=z:=by
 unfold iv;rw[Qc (zhw z),za5];by_cases h:z<0
 .rw[Qc (by simp[h])];omega
 .rw[Qb (by simp[h])];omega
theorem zza(s:Bool)(a:List Nat)(t:Bool)(b:List Nat)(ha:a.length<2000000000000)(hb:b.length<2000000000000):Q9 prog 130 [gI s a,gI t b] (eI (iv s a-iv t b)):=by
 refine QJ QC call130 func130 rfl ntmps130 results130 (by simp) (by decide) ?_;simp only[go_sem];refine Q3 (zdZ t b (by omega)) rfl ?_;have WS:=zbn t b;generalize iv t b=y at *
 have Xg:=zcy (dig y.natAbs) (!decide (y<0));have XJ:((!decide (y<0))&&decide (dig y.natAbs≠[]))=decide (-y<0):=by
  rw[waU];simp[Yt];omega
 rw[zde XJ (by omega)]at Xg;have Vf:=zjM s a (decide (-y<0)) (dig (-y).natAbs) ha (by rw[show(-y).natAbs=y.natAbs by omega];omega);rw[Z2,<-Int.sub_eq_add_neg]at Vf;simp only[go_sem];refine Q4 0 rfl ?_;simp only[go_sem];refine Q3 Xg rfl ?_;simp only[go_sem];refine Q3 Vf rfl ?_;simp only[go_sem];exact Zk .t .t
theorem zge{H:QD}{a:C}{x:T}(h1:FzC H a x):FzA H (.agg [a]) (.agg [x]):=.agg rfl fun j h h'=>by
 match j,h,h' with
 |0,_,_=>exact h1
 |j+1,h,_=>simp at h
def zb5(m n:Nat)(up:Bool):Nat:=if up=true/\m%n≠0 then m/n+1 else m/n
def zb6(m n:Nat)(up:Bool):Nat:=if up=true/\m%n≠0 then n-m%n else m%n
theorem ztY(m n:Nat)(up:Bool)(ha:(dig m).length<100000000000)(hb:(dig n).length<100000000000):Q9 prog 152 [gZ (dig m),gZ (dig n),tB up] (.tup [gZ (dig (zb5 m n up)),gZ (dig (zb6 m n up))]):=by
 refine QJ QC call152 func152 rfl ntmps152 results152 (by simp) (by decide) ?_;simp only[go_sem];have KN:=ziz (dig m) (dig n) (by omega) (by omega);rw[Zx,Zx]at KN;refine Q3 KN rfl ?_;simp only[go_sem];cases up with
 |false =>
  have e1:zb5 m n false=m/n:=by simp[zb5]
  have e2:zb6 m n false=m%n:=by simp[zb6]
  rw[e1,e2];simp only[go_sem];exact zaW (zge .t) (zge .t)
 |true =>
  have hm:=zab (zdd m);rw[za5]at hm;have l1:(dig (m/n)).length<=(dig m).length:=zbJ (wbZ (wci _ _) hm);have l2:(dig (m%n)).length<=(dig m).length:=zbJ (wbZ (Nat.mod_le _ _) hm);by_cases hr:m%n=0
  .have e1:zb5 m n true=m/n:=by simp[zb5,hr]
   have e2:zb6 m n true=m%n:=by simp[zb6,hr]
   have h0:¬(0:Int)<((dig (m%n)).length:Int):=by rw[hr,Zi];simp
   rw[e1,e2];simp only[go_sem,h0];exact zaW (zge .t) (zge .t)
  .have e1:zb5 m n true=m/n+1:=by simp[zb5,hr]
   have e2:zb6 m n true=n-m%n:=by simp[zb6,hr]
   have h0:(0:Int)<((dig (m%n)).length:Int):=by
    have:dig (m%n)≠[]:=fun e=>hr (Yt.1 e)
    have:=wa6.2 this;omega
   have YR:=ziX 1 (by decide);have l3:(dig 1).length<=3:=zbJ (by decide);have Vf:=znj (dig (m/n)) (dig 1) (by omega) (by omega);have YP:=zkj (dig n) (dig (m%n)) (by omega) (by omega);rw[Zx,Zx]at Vf YP;rw[e1,e2];simp only[go_sem,h0];refine Q4 0 rfl ?_;simp only[go_sem];refine Q3 YR rfl ?_;simp only[go_sem];refine Q3 Vf rfl ?_;simp only[go_sem];refine Q3 YP rfl ?_;simp only[go_sem];exact zaW (zge .t) (zge .t)
theorem zkm(x y:Int)(hy:y≠0):Int.fdiv x y=(if(decide (x<0) != decide (y<0))=true then -(zb5 x.natAbs y.natAbs (decide (x<0) != decide (y<0)):Int)else(zb5 x.natAbs y.natAbs (decide (x<0) != decide (y<0)):Int))/\Int.fmod x y=(if y<0 then -(zb6 x.natAbs y.natAbs (decide (x<0) != decide (y<0)):Int)else(zb6 x.natAbs y.natAbs (decide (x<0) != decide (y<0)):Int)):=by
 have hn:0<y.natAbs:=by omega
 have hd:=wcj x.natAbs y.natAbs;have hl:=wav x.natAbs hn;unfold zb5 zb6;generalize x.natAbs/y.natAbs=q at *
 generalize x.natAbs%y.natAbs=r at *
 have El:(y.natAbs:Int)*q+r=x.natAbs:=by exact_mod_cast hd
 have key:∀ Q R:Int,x=y*Q+R->((0<y->0<=R/\R<y)/\(y<0->R<=0/\y<R))->Int.fdiv x y=Q/\Int.fmod x y=R:=fun Q R e h=>by
  have h2:Int.fdiv R y=0:=by
   rcases Int.lt_or_le y 0 with h'|h'
   .rw[<-Int.neg_fdiv_neg,wcw _ (by omega)]
    have:=h.2 h';exact Int.ediv_eq_zero_of_lt (by omega) (by omega)
   .have:=h.1 (by omega)
    rw[wcw _ h'];exact Int.ediv_eq_zero_of_lt (by omega) (by omega)
  have h3:Int.fdiv x y=Q:=by rw[e,Int.add_comm,Int.add_mul_fdiv_left _ _ hy,h2,wb3]
  refine⟨h3,?_⟩;rw[Int.fmod_def,h3,e];omega
 have Fj:y<0->(y.natAbs:Int) = -y:=by omega
 have Ou:0<=y->(y.natAbs:Int)=y:=by omega
 have Gw:∀ Q:Int,(-y)*Q = -(y*Q):=fun Q=>wdi y Q
 rcases Int.lt_or_le x 0 with hx|hx<;>rcases Int.lt_or_le y 0 with hy'|hy'<;>by_cases hr:r=0
 all_goals
  first|rw[Fj hy',Gw]at El|rw[Ou hy']at El
  simp only[hx,hy',hr,wcB.2 hx,wcB.2 hy',decide_true,decide_false,show(true != false)=true from rfl,show(false != true)=true from rfl,show(true != true)=false from rfl,show(false != false)=false from rfl,wa4,if_false,if_true,ne_eq,not_true_eq_false,not_false_eq_true,Qu,and_false,false_and];refine key _ _ ?_ ?_<;>(try simp only[Int.natCast_add,Int.natCast_one,wb1,wbQ,wbh,Int.neg_add])<;>omega
theorem zwM(s:Bool)(a:List Nat)(t:Bool)(b:List Nat)(ha:a.length<10000000000)(hb:b.length<10000000000):Q9 prog 116 [gI s a,gI t b] (.tup [eI (Int.fdiv (iv s a) (iv t b)),eI (Int.fmod (iv s a) (iv t b))]):=by
 refine QJ QC call116 func116 rfl ntmps116 results116 (by simp) (by decide) ?_;simp only[go_sem];refine Q4 0 rfl ?_;simp only[go_sem];refine Q3 (zdZ s a (by omega)) rfl ?_;simp only[go_sem];refine Q3 (zdZ t b (by omega)) rfl ?_;have UC:=zbn s a;have WS:=zbn t b;generalize iv s a=x at *
 generalize iv t b=y at *
 simp only[go_sem];refine Q3 (zgt (dig y.natAbs)) rfl ?_;by_cases hy:y=0
 .subst hy
  have e0:(dig (0:Int).natAbs).length=0:=by simp[Zi]
  have Xg:=zcy (dig x.natAbs) (decide (x<0));have XJ:(decide (x<0)&&decide (dig x.natAbs≠[]))=decide (x<0):=by
   rw[waU];simp[Yt];omega
  rw[zde XJ rfl]at Xg;rw[wdX,Int.fmod_zero];simp only[go_sem,e0];refine Q4 0 rfl ?_;simp only[go_sem];refine Q3 (zkR _ (by omega)) rfl ?_;simp only[go_sem];refine Q3 Xg rfl ?_;simp only[go_sem];have e3:eI 0=gI false []:=by unfold eI;simp[Zi]
  rw[e3];exact zaW (Zk .t .weak) (Zk .t .t)
 .have hne:¬(dig y.natAbs).length=0:=fun e=>by
   have:=Yt.1 (wbd.1 e);omega
  have LT:=ztY x.natAbs y.natAbs (decide (x<0) != decide (y<0)) (by omega) (by omega);have law:=zkm x y hy;generalize zb5 x.natAbs y.natAbs (decide (x<0) != decide (y<0))=q at *
  generalize zb6 x.natAbs y.natAbs (decide (x<0) != decide (y<0))=r at *
  have XI:(Int.fdiv x y).natAbs=q:=by rw[law.1];split<;>omega
  have Ug:(Int.fmod x y).natAbs=r:=by rw[law.2];split<;>omega
  have XA:=zcy (dig q) (decide (x<0) != decide (y<0));have Rn:=zcy (dig r) (decide (y<0));have s1:((decide (x<0) != decide (y<0))&&decide (dig q≠[]))=decide (Int.fdiv x y<0):=by
   rw[waU];simp only[ne_eq,wag,way,Yt];rw[law.1];split<;>simp_all<;>omega
  have s2:(decide (y<0)&&decide (dig r≠[]))=decide (Int.fmod x y<0):=by
   rw[waU];simp only[ne_eq,wag,way,Yt];rw[law.2];split<;>omega
  rw[s1,<-XI]at XA;rw[s2,<-Ug]at Rn;rw[<-XI,<-Ug]at LT;simp only[go_sem,hne];refine Q3 LT rfl ?_;simp only[go_sem];refine Q4 0 rfl ?_;simp only[go_sem];refine Q3 XA rfl ?_;simp only[go_sem];refine Q3 Rn rfl ?_;simp only[go_sem];exact zaW (Zk .t .t) (Zk .t .t)
theorem zxV(m n:Nat)(hm:(dig m).length<100000000000)(hn:(dig n).length<100000000000):Q9 prog 178 [tN (dig m),tN (dig n)] (tN (dig (Nat.gcd m n))):=by
 refine QJ QC call178 func178 rfl ntmps178 results178 (by simp) (by decide) ?_;simp only[go_sem];refine QK (fun p:Nat×Nat=>stL 19 [(0,aN (dig p.1)),(1,aN (dig p.2))] []) (fun p=>(dig p.1).length<100000000000/\(dig p.2).length<100000000000/\Nat.gcd p.1 p.2=Nat.gcd m n) (fun p=>p.2) (m,n) ?_ ⟨hm,hn,rfl⟩ ?_
 .refine Q7 rfl ?_ ?_ rfl rfl<;>simp only[go_sem]<;>simp
 .rintro⟨x,y⟩ ⟨hx,hy,hg⟩
  simp only at hx hy hg ⊢;simp only[go_sem];refine QI (fun h=>?_) (fun h=>?_)
  .have Vq:y≠0:=by rintro rfl;simp[Zi]at h
   have KN:=ziz (dig x) (dig y) (by omega) (by omega);rw[Zx,Zx]at KN;simp only[go_sem];refine Q3 KN rfl ?_;simp only[go_sem];have Yw:=wav x (wbN Vq);have Eu:=zab (zdd y);rw[za5]at Eu;have hl:(dig (x%y)).length<=(dig y).length:=zbJ (by omega);refine⟨(y,x%y),⟨hy,(by show(dig (x%y)).length<100000000000;omega),by show Nat.gcd y (x%y)=_;rw[<-hg,wcL y,<-Nat.gcd_rec,wcL]⟩,Yw,?_⟩;refine Q7 rfl ?_ ?_ rfl rfl<;>simp only[go_sem]<;>simp
  .have Vq:y=0:=by
    have:(dig y).length=0:=by omega
    exact Yt.1 (wbd.1 this)
   subst Vq;rw[Nat.gcd_zero_right]at hg;subst hg;simp only[go_sem];exact Yr
theorem zjY(neg:Bool)(mag:List Nat)(hl:mag.length<30000000000000):Q9 prog 14 [gI neg mag] (tB (decide (IsI neg mag))):=by
 refine QJ QC call14 func14 rfl ntmps14 results14 (by simp) (by decide) ?_;simp only[go_sem];refine Q3 (zp0 mag hl) rfl ?_;by_cases h:IsN mag
 .cases mag with
  |nil =>
   cases neg
   .simp only[go_sem,h]
    simp[IsI,h]
   .simp only[go_sem,h]
    simp[IsI]
  |cons x l =>
   have hp:(0:Int)<(l.length:Int)+1:=by omega
   cases neg
   .simp only[go_sem,h]
    simp[IsI,h]
   .simp only[go_sem,h,hp]
    simp[IsI,h]
 .simp only[go_sem,h]
  simp[IsI,h]
theorem zhV{s:Bool}{a:List Nat}(hI:IsI s a):gI s a=eI (iv s a):=by
 unfold eI iv;rw[Qc hI];have e1:(if s=true then -(val a:Int)else(val a:Int)).natAbs=val a:=by cases s<;>simp
 have e2:decide ((if s=true then -(val a:Int)else(val a:Int))<0)=s:=by
  cases s
  .simp
  .have:a≠[]:=by rcases hI.2 with h|h;exact h;cases h
   have:0<val a:=wbN fun e=>this ((zia hI.1).1 e)
   simp;omega
 rw[e1,e2,hI.1.trimZ]
theorem zlF:eI 0=gI false []:=by unfold eI;simp[Zi]
theorem zgE(s:Bool)(a:List Nat)(hl:a.length<30000000000000):Q9 prog 44 [gI s a] (eI (iv s a)):=by
 refine QJ QC call44 func44 rfl ntmps44 results44 (by simp) (by decide) ?_;simp only[go_sem];refine Q3 (zjY s a hl) rfl ?_;by_cases h:IsI s a
 .rw[<-zhV h]
  simp only[go_sem,h];exact Zk .t .t
 .have e:iv s a=0:=Qb h
  rw[e,zlF];simp only[go_sem,h];exact Zk .t .weak
theorem zhC(neg:Bool)(l:List Nat):Q9 prog 42 [tB neg,tN l] (gI (neg&&decide (l≠[])) l):=by
 refine QJ QC call42 func42 rfl ntmps42 results42 (by simp) (by decide) ?_;simp only[go_sem];cases neg with
 |false =>
  simp only[go_sem];exact Zk .t .t
 |true =>
  have e:decide (0<(l.length:Int))=decide (¬l=[]):=by cases l<;>simp
  simp only[go_sem,e];exact Zk .t .t
theorem zgI(n:Int)(h1 : -9223372036854775808<=n)(h2:n<9223372036854775808):Q9 prog 22 [tI .i64 n] (eI n):=by
 refine QJ QC call22 func22 rfl ntmps22 results22 (by simp) (by decide) ?_;simp only[go_sem];have Gj:n.natAbs<18446744073709551616:=by omega
 have Xy:=zxi n.natAbs Gj;refine QI (fun hn=>?_) (fun hn=>?_)
 .have hw:IntKind.wrap .u64 (0-IntKind.wrap .u64 n)=(n.natAbs:Int):=by
   unfold IntKind.wrap;simp[IntKind.signed,IntKind.bits];omega
  have Xg:=zhC true (dig n.natAbs);have XJ:(true&&decide (dig n.natAbs≠[]))=true:=by
   rw[wbo,decide_eq_true_iff,ne_eq,Yt];omega
  rw[XJ]at Xg;have e:eI n=gI true (dig n.natAbs):=by unfold eI;rw[waA hn]
  rw[e];simp only[go_sem,hn,hw];refine Q3 Xy rfl ?_;simp only[go_sem,hn,hw];refine Q3 Xg rfl ?_;simp only[go_sem,hn];exact Zk .t .t
 .have hw:IntKind.wrap .u64 n=(n.natAbs:Int):=by rw[QE (by omega) (by omega)];omega
  have e:eI n=gI false (dig n.natAbs):=by unfold eI;rw[wad hn]
  rw[e];simp only[go_sem,hn,hw];refine Q3 Xy rfl ?_;simp only[go_sem,hn,hw];exact Zk .t .t
theorem zlJ(neg:Bool)(mag:List Nat)(hl:mag.length<30000000000000):Q9 prog 24 [gI neg mag] (tI .i64 (iv neg mag).sign):=by
 refine QJ QC call24 func24 rfl ntmps24 results24 (by simp) (by decide) ?_;simp only[go_sem];refine Q3 (zgE neg mag hl) rfl ?_;have hs:=zgD (iv neg mag);generalize iv neg mag=z at *
 generalize z.sign=sg at *
 by_cases h0:z=0
 .have e0:(dig z.natAbs).length=0:=by subst h0;simp[Zi]
  simp only[go_sem,e0];omega
 .have hne:¬((dig z.natAbs).length:Int)=0:=fun e=>by
   have:=Yt.1 (wbd.1 (Int.ofNat_inj.1 e));omega
  by_cases hn:z<0
  .have e:sg = -1:=by omega
   simp only[go_sem,hne,hn,e]
  .have e:sg=1:=by omega
   simp only[go_sem,hne,hn,e]
theorem zwB(s:Bool)(a:List Nat)(t:Bool)(b:List Nat)(ha:a.length<30000000000000)(hb:b.length<30000000000000):Q9 prog 27 [gI s a,gI t b] (tB (decide (s=t/\a=b))):=by
 refine QJ QC call27 func27 rfl ntmps27 results27 (by simp) (by decide) ?_;simp only[go_sem];by_cases YN:s=t
 .have e:(s==t)=true:=by simp[YN]
  simp only[go_sem,e];refine Q3 (zt8 a b ha hb) rfl ?_;simp only[go_sem];simp[YN]
 .have e:(s==t)=false:=by simp[YN]
  simp only[go_sem,e];simp[YN]
theorem zy6(s:Bool)(a:List Nat)(t:Bool)(b:List Nat)(ha:a.length<2000000000000)(hb:b.length<2000000000000):Q9 prog 67 [gI s a,gI t b] (eI (iv s a+iv t b)):=by
 refine QJ QC call67 func67 rfl ntmps67 results67 (by simp) (by decide) ?_;simp only[go_sem];refine Q4 0 rfl ?_;simp only[go_sem];refine Q3 (zgE s a (by omega)) rfl ?_;simp only[go_sem];refine Q3 (zgE t b (by omega)) rfl ?_;have UC:=zbn s a;have WS:=zbn t b;generalize iv s a=x at *
 generalize iv t b=y at *
 by_cases Y4:(decide (x<0))=decide (y<0)
 .have Vf:=zn4 (dig x.natAbs) (dig y.natAbs) (by omega) (by omega)
  rw[Zx,Zx]at Vf;have hz:x.natAbs+y.natAbs=(x+y).natAbs:=by
   rw[wax]at Y4;omega
  rw[hz]at Vf;have Xg:=zhC (decide (x<0)) (dig (x+y).natAbs);have XJ:(decide (x<0)&&decide (dig (x+y).natAbs≠[]))=decide (x+y<0):=by
   rw[wax]at Y4;rw[waU];simp only[ne_eq,wag,way,Yt];omega
  rw[zde XJ rfl]at Xg;have WY:(decide (x<0)==decide (y<0))=true:=by rw[Y4];simp
  simp only[go_sem,WY];refine Q4 0 rfl ?_;simp only[go_sem];refine Q3 Vf rfl ?_;simp only[go_sem];refine Q3 Xg rfl ?_;simp only[go_sem];exact Zk .t .t
 .have WY:(decide (x<0)==decide (y<0))=false:=by simpa using Y4
  rw[wax]at Y4;have K0:=zoJ (dig x.natAbs) (dig y.natAbs) (by omega) (by omega);rw[Zx,Zx]at K0;simp only[go_sem,WY];refine Q3 K0 rfl ?_;by_cases WP:y.natAbs<=x.natAbs
  .have hc:0<=QY (x.natAbs:Int) (y.natAbs:Int):=by
    unfold QY;repeat' split
    all_goals omega
   have YP:=zot (dig x.natAbs) (dig y.natAbs) (by omega) (by omega);rw[Zx,Zx,show x.natAbs-y.natAbs=(x+y).natAbs by omega]at YP;have Xg:=zhC (decide (x<0)) (dig (x+y).natAbs);have XJ:(decide (x<0)&&decide (dig (x+y).natAbs≠[]))=decide (x+y<0):=by
    rw[waU];simp only[ne_eq,wag,way,Yt];omega
   rw[zde XJ rfl]at Xg;simp only[go_sem,hc];refine Q4 0 rfl ?_;simp only[go_sem];refine Q3 YP rfl ?_;simp only[go_sem];refine Q3 Xg rfl ?_;simp only[go_sem];exact Zk .t .t
  .have hc:¬0<=QY (x.natAbs:Int) (y.natAbs:Int):=by
    unfold QY;repeat' split
    all_goals omega
   have YP:=zot (dig y.natAbs) (dig x.natAbs) (by omega) (by omega);rw[Zx,Zx,show y.natAbs-x.natAbs=(x+y).natAbs by omega]at YP;have Xg:=zhC (decide (y<0)) (dig (x+y).natAbs);have XJ:(decide (y<0)&&decide (dig (x+y).natAbs≠[]))=decide (x+y<0):=by
    rw[waU];simp only[ne_eq,wag,way,Yt];omega
   rw[zde XJ rfl]at Xg;simp only[go_sem,hc];refine Q4 0 rfl ?_;simp only[go_sem];refine Q3 YP rfl ?_;simp only[go_sem];refine Q3 Xg rfl ?_;simp only[go_sem];exact Zk .t .t
def lN(z:Int):Nat:=(dig z.natAbs).length
theorem zbU(z:Int):z.natAbs<BB^lN z:=by
 have:=zab (zdd z.natAbs);rwa[za5]at this
theorem zch{z:Int}{k:Nat}(h:z.natAbs<BB^k):lN z<=k:=zbJ h
theorem Zs(z:Int):lN (-z)=lN z:=by unfold lN;rw[wcv]
theorem zhp(z:Int):lN (z.natAbs:Int)=lN z:=by unfold lN;rw[wbv]
theorem zmG(k:Nat):BB^(k+1)=1000000000*BB^k:=by rw[waP,Qt]
theorem za6(x y:Int):lN (x+y)<=max (lN x) (lN y)+1:=by
 apply zch;have h1:=zbU x;have h2:=zbU y;have h3:BB^lN x<=BB^max (lN x) (lN y):=waT (by decide) (wbK ..);have h4:BB^lN y<=BB^max (lN x) (lN y):=waT (by decide) (wbG ..);have h5:=Int.natAbs_add_le x y;rw[zmG];omega
theorem zey(x y:Int):lN (x-y)<=max (lN x) (lN y)+1:=by
 have:=za6 x (-y);rwa[Zs,<-Int.sub_eq_add_neg]at this
theorem ZX(x y:Int):lN (x*y)<=lN x+lN y:=by
 apply zch;rw[wbb,wbe];exact wc5 (zbU x) (zbU y)
theorem zeF{x y:Int}(h:x.natAbs<=y.natAbs):lN x<=lN y:=zch (wbZ h (zbU y))
theorem zaX(s:Bool)(a:List Nat):lN (iv s a)<=a.length:=zbn s a
theorem zcL:lN 1<=1:=zch (by decide)
theorem zrd(s:Bool)(a:List Nat)(t:Bool)(b:List Nat)(ha:a.length<2000000000000)(hb:b.length<2000000000000):Q9 prog 26 [gI s a,gI t b] (eI (iv s a*iv t b)):=by
 refine QJ QC call26 func26 rfl ntmps26 results26 (by simp) (by decide) ?_;simp only[go_sem];refine Q4 0 rfl ?_;simp only[go_sem];refine Q3 (zgE s a (by omega)) rfl ?_;simp only[go_sem];refine Q3 (zgE t b (by omega)) rfl ?_;have UC:=zbn s a;have WS:=zbn t b;generalize iv s a=x at *
 generalize iv t b=y at *
 have WU:=zvG (dig x.natAbs) (dig y.natAbs) (by omega) (by omega);rw[Zx,Zx,<-wbb]at WU;have Xg:=zhC (decide (x<0) != decide (y<0)) (dig (x*y).natAbs);have XJ:((decide (x<0) != decide (y<0))&&decide (dig (x*y).natAbs≠[]))=decide (x*y<0):=by
  rw[waU];simp[Yt];rcases wbH x 0 with h|h|h<;>rcases wbH y 0 with h'|h'|h'<;>simp_all [wef,weg]<;>first|omega|(have:=weh h h';omega)|(have:=Int.mul_pos h h';omega)|skip
 rw[zde XJ rfl]at Xg;simp only[go_sem];refine Q4 0 rfl ?_;simp only[go_sem];refine Q3 WU rfl ?_;simp only[go_sem];refine Q3 Xg rfl ?_;simp only[go_sem];exact Zk .t .t
theorem znM(x:Int)(hl:lN x<30000000000000):Q9 prog 24 [eI x] (tI .i64 x.sign):=by
 have:=zlJ (decide (x<0)) (dig x.natAbs) hl;rwa[Z2]at this
theorem zlb(x y:Int)(ha:lN x<2000000000000)(hb:lN y<2000000000000):Q9 prog 67 [eI x,eI y] (eI (x+y)):=by
 have:=zy6 (decide (x<0)) (dig x.natAbs) (decide (y<0)) (dig y.natAbs) ha hb;rwa[Z2,Z2]at this
theorem zxK{x y:Int}:(decide (x<0)=decide (y<0)/\dig x.natAbs=dig y.natAbs)↔x=y:=by
 refine⟨fun⟨h,h'⟩=>?_,fun h=>by rw[h];exact⟨rfl,rfl⟩⟩;have h2:x.natAbs=y.natAbs:=by rw[<-za5 x.natAbs,h',za5]
 rw[wax]at h;omega
theorem zs9(x y:Int)(ha:lN x<30000000000000)(hb:lN y<30000000000000):Q9 prog 27 [eI x,eI y] (tB (decide (x=y))):=by
 have:=zwB (decide (x<0)) (dig x.natAbs) (decide (y<0)) (dig y.natAbs) ha hb
 rwa[show decide (decide (x<0)=decide (y<0)/\dig x.natAbs=dig y.natAbs)=decide (x=y)from wax.2 zxK]at this
theorem zdF(x:Int)(hl:lN x<30000000000000):Q9 prog 35 [eI x] (tI .i64 x.sign):=by
 have:=zfi (decide (x<0)) (dig x.natAbs) hl;rwa[Z2]at this
theorem zbO(x:Int)(hl:lN x<10000000000000):Q9 prog 82 [eI x] (eI (-x)):=by
 have:=zrs (decide (x<0)) (dig x.natAbs) hl;rwa[Z2]at this
theorem zv2(x:Int)(hl:lN x<10000000000000):Q9 prog 162 [eI x] (eI (x.natAbs:Int)):=by
 have:=zme (decide (x<0)) (dig x.natAbs) hl;rwa[Z2]at this
theorem zc7(x y:Int)(ha:lN x<2000000000000)(hb:lN y<2000000000000):Q9 prog 81 [eI x,eI y] (eI (x+y)):=by
 have:=zjM (decide (x<0)) (dig x.natAbs) (decide (y<0)) (dig y.natAbs) ha hb;rwa[Z2,Z2]at this
theorem zep(x y:Int)(ha:lN x<2000000000000)(hb:lN y<2000000000000):Q9 prog 130 [eI x,eI y] (eI (x-y)):=by
 have:=zza (decide (x<0)) (dig x.natAbs) (decide (y<0)) (dig y.natAbs) ha hb;rwa[Z2,Z2]at this
theorem zdJ(x y:Int)(ha:lN x<2000000000000)(hb:lN y<2000000000000):Q9 prog 136 [eI x,eI y] (eI (x*y)):=by
 have:=zmi (decide (x<0)) (dig x.natAbs) (decide (y<0)) (dig y.natAbs) ha hb;rwa[Z2,Z2]at this
theorem zf4(x y:Int)(ha:lN x<10000000000000)(hb:lN y<10000000000000):Q9 prog 79 [eI x,eI y] (tI .i64 (QY x y)):=by
 have:=zrA (decide (x<0)) (dig x.natAbs) (decide (y<0)) (dig y.natAbs) (wc6 ha (by decide)) (wc6 hb (by decide));rwa[Z2,Z2]at this
theorem ziJ(x y:Int)(ha:lN x<10000000000000)(hb:lN y<10000000000000):Q9 prog 118 [eI x,eI y] (tB (decide (x=y))):=by
 have:=zyF (decide (x<0)) (dig x.natAbs) (decide (y<0)) (dig y.natAbs) (wc6 ha (by decide)) (wc6 hb (by decide));rwa[Z2,Z2]at this
theorem zeh(x y:Int)(ha:lN x<10000000000)(hb:lN y<10000000000):Q9 prog 116 [eI x,eI y] (.tup [eI (Int.fdiv x y),eI (Int.fmod x y)]):=by
 have:=zwM (decide (x<0)) (dig x.natAbs) (decide (y<0)) (dig y.natAbs) ha hb;rwa[Z2,Z2]at this
theorem zbP(n:Int)(h1 : -9223372036854775808<=n)(h2:n<9223372036854775808):Q9 prog 106 [tI .i64 n] (eI n):=w_Of n h1 h2
@[go_sem] theorem zzD{P:Program}{m:Nat}{σ:St}{K:AV->St->Prop}{d ty:Nat}{pos:String}{af:Array Edge}{g:Option (Nat×Bool)}{t:TypeId}{n i:Nat}{v:Value}{ps:List (Nat×Operand)}(hn:n≠0) :
  QW P m ⟨some d,.buildSlice t n ((i,.const v)::ps).toArray,ty,pos,af,g⟩ σ K =
  ((tok P t=true/\isSliceD (tdesc P t)=true/\tok P (telem P t)=true/\n*tsize P (telem P t)<=2^24/\0<n*tsize P (telem P t)/\((tzero P (telem P t)).map (·.length))=some (tsize P (telem P t)) /\
   (zb8 P t n (((i,Operand.const v)::ps).map fun p=>(p.1,ev σ.s p.2))).isSome=true)/\K ((zb8 P t n (((i,Operand.const v)::ps).map fun p=>(p.1,ev σ.s p.2))).getD .junk) σ):=zrR hn rfl
theorem zq0(x y:Int):lN (Int.gcd x y:Int)<=lN x+lN y:=by
 apply zch;rw[wbv,wbe];have h1:=zbU x;have h2:=zbU y;by_cases hx:x=0
 .subst hx
  rw[show Int.gcd 0 y=y.natAbs by simp];have h3:0<BB^lN 0:=waZ (by decide);exact wbf h2 (wcA _ h3)
 .have:Int.gcd x y<=x.natAbs:=Nat.gcd_le_left _ (by omega)
  have h3:0<BB^lN y:=waZ (by decide);exact wbf (wbZ this h1) (wb4 _ h3)
theorem zap{z:Int}(h:z.natAbs<1000000000):lN z<=1:=zch (by rw[Nat.pow_one];exact h)
theorem zbV{P:Program}{f:FuncId}{xs:List TV}{p:Prop}[Decidable p](h:Q9 P f xs (tB (decide p)))(hp:p):Q9 P f xs (tB true):=by rwa[waA hp]at h
theorem zcf{P:Program}{f:FuncId}{xs:List TV}{p:Prop}[Decidable p](h:Q9 P f xs (tB (decide p)))(hp:¬p):Q9 P f xs (tB false):=by rwa[wad hp]at h
theorem zi5{x y:Int}(h:x<=y):QY x y<=0:=by
 unfold QY;repeat' split
 all_goals omega
theorem zwm{x y:Int}(h:x<y):QY x y = -1:=by unfold QY;rw[Qc h]
theorem zi6{x y:Int}(h:y<x):QY x y=1:=by unfold QY;rw[Qb (by omega),Qc h]
theorem zth{x:Int}:x.sign=0↔x=0:=wb6
theorem _root_.Go.Abs.RC.weakS{w:World}{ok:Nat->Prop}{ρ:Nat->Option Nat}{nl:Option Bool}{xs:List (List T)}{v:Value}(h:RC w ok ρ (.t (.seq nl xs)) v):RC w ok ρ (.t (.seq none xs)) v:=by
 cases h with
 |t h=>cases h with
  |seq g1 g2 g0 g3 g4 g5 g6 g7 g8=>exact .t (.seq g1 g2 g0 (fun e=>by cases e) (fun e=>by cases e) g5 g6 g7 g8)
theorem zux(x:Int){y:Int}(hy:y≠0):x%y<(y.natAbs:Int):=by
 by_cases h:0<y
 .have:=Int.emod_lt_of_pos x h;omega
 .have:=Int.emod_lt_of_pos x (show 0 < -y by omega)
  rw[Int.emod_neg]at this;omega
theorem zDG(x y:Int):lN (x%y)<=max (lN x) (lN y):=by
 by_cases hy:y=0
 .subst hy;rw[Int.emod_zero];omega
 .have h1:=Int.emod_nonneg x hy
  have h2:=zux x hy;have:lN (x%y)<=lN y:=zeF (by omega);omega
theorem zwn{m n:Nat}{up:Bool}(hn:0<n):zb6 m n up<n:=by
 have:=wav m hn;unfold zb6;split<;>omega
theorem zwo{m n:Nat}{up:Bool}:zb5 m n up<=m+1:=by
 have:=wci m n;unfold zb5;split<;>omega
theorem zas(x y:Int):lN (Int.fdiv x y)<=lN x+1:=by
 by_cases hy:y=0
 .subst hy;rw[wdX];unfold lN;simp[Zi]
 .apply zch
  have h1:=zbU x;have law:=(zkm x y hy).1;have h2:=zwo (m:=x.natAbs) (n:=y.natAbs) (up:=decide (x<0) != decide (y<0));generalize zb5 x.natAbs y.natAbs (decide (x<0) != decide (y<0))=q at *
  have h3:(Int.fdiv x y).natAbs=q:=by rw[law];split<;>simp only[wcv,wbv]
  have h4:0<BB^lN x:=waZ (by decide);rw[zmG];omega
theorem zsA(x:Int){y:Int}(hy:y≠0):Int.fmod x y=0\/((Int.fmod x y).sign=y.sign/\(Int.fmod x y).natAbs<y.natAbs):=by
 have law:=(zkm x y hy).2;have h2:=zwn (m:=x.natAbs) (n:=y.natAbs) (up:=decide (x<0) != decide (y<0)) (by omega);generalize zb6 x.natAbs y.natAbs (decide (x<0) != decide (y<0))=r at *
 rw[law];by_cases hr:r=0
 .left;subst hr;split<;>rfl
 .right
  split
  .rename_i h
   refine⟨?_,by rw[wcv,wbv];exact h2⟩;rw[wcl h,wcl (by omega)]
  .rename_i h
   refine⟨?_,by rw[wbv];exact h2⟩;rw[wbJ (show 0<y by omega),wbJ (by omega)]
theorem zwp(x y:Int):lN (Int.fmod x y)<=max (lN x) (lN y):=by
 by_cases hy:y=0
 .subst hy;rw[Int.fmod_zero];omega
 .have:lN (Int.fmod x y)<=lN y:=zeF (by rcases zsA x hy with h|⟨_,h⟩<;>omega)
  omega
theorem zcx{x:Int}(h:x≠0):¬x.sign=0:=fun e=>h (zth.1 e)
theorem ZI:lN 0=0:=by unfold lN;simp[Zi]
def cI(p:Bool×List Nat):List T:=[.lit (.bool p.1),eN p.2]
theorem ZN(p:Bool×List Nat):(cI p).length=2:=rfl
abbrev tLI(l:List (Bool×List Nat)):TV:=.one (eL cI l)
abbrev aLI(l:List (Bool×List Nat)):AV:=.one (.t (eL cI l))
def gAll(l:List (Bool×List Nat)):Nat:=l.foldl (fun g p=>Nat.gcd (iv p.1 p.2).natAbs g) 0
theorem znK{l:List (Bool×List Nat)}{p:Bool×List Nat}:gAll (l++[p])=Nat.gcd (iv p.1 p.2).natAbs (gAll l):=by unfold gAll;rw[wcd];rfl
theorem zo1{N:Nat}:∀ (l:List (Bool×List Nat)),(∀ p∈l,p.2.length<=N)->(dig (gAll l)).length<=N:=by
 intro l
 suffices h:∀ (l:List (Bool×List Nat)) (g:Nat),(dig g).length<=N->(∀ p∈l,p.2.length<=N)->(dig (l.foldl (fun g p=>Nat.gcd (iv p.1 p.2).natAbs g) g)).length<=N from
  fun hl=>h l 0 (by simp[Zi]) hl
 intro l
 induction l with
 |nil=>intro g hg _;exact hg
 |cons p l ih =>
  intro g hg hl;refine ih _ ?_ (fun q hq=>hl q (by simp[hq]));have hp:=zaX p.1 p.2;have Lc:=hl p (by simp);have h1:=zbU (iv p.1 p.2);have Gc:=zab (zdd g);rw[za5]at Gc;have Yw:Nat.gcd (iv p.1 p.2).natAbs g<BB^max (lN (iv p.1 p.2)) (dig g).length:=by
   by_cases hz:(iv p.1 p.2).natAbs=0
   .rw[hz,Nat.gcd_zero_left]
    exact wbf Gc (waT (by decide) (wbG ..))
   .exact wbZ (Nat.gcd_le_left _ (by omega)) (wbf h1 (waT (by decide) (wbK ..)))
  exact Qn (zbJ Yw) (by omega)
theorem zrG(l:List (Bool×List Nat))(hl:l.length<10000000000000)(hp:∀ p∈l,p.2.length<100000000000):Q9 prog 169 [tLI l] (eI (gAll l:Int)):=by
 refine QJ QC call169 func169 rfl ntmps169 results169 (by simp) (by decide) ?_;simp only[go_sem];have e3:eI (gAll l:Int)=gI false (dig (gAll l)):=by
  unfold eI;rw[wbv,wad (by omega)]
 rw[e3];refine QK (fun i:Nat=>stL 20 [(2,.one (.ptr 2 0)),(3,aN (dig (gAll (l.take i)))),(6,aLI l),(7,litI .i64 l.length),(8,litI .i64 i)] [(2,[.t (.lit (.bool false)),.t (.seq (some true) [])])]) (fun i=>i<=l.length) (fun i=>l.length-i) 0 ?_ (Qk _) ?_
 .refine GStep.trans (zic 3 (nl:=some true) (xs:=[]) (by simp only[go_sem])) ?_
  rw[wao,show gAll []=0 from rfl,Zi];refine Q7 rfl ?_ ?_ rfl rfl<;>simp only[go_sem]<;>simp;all_goals rfl
 .intro i hi
  simp only[go_sem];refine QI (fun Yw=>?_) (fun YG=>?_)
  .have Yv:i<l.length:=by omega
   have Y1:QM cI l i=cI l[i]:=Q8 Yv;have Y0:=hp _ (Qh Yv);have Vv:=zo1 (N:=99999999999) (l.take i) (fun p Ro=>by have:=hp p (waQ Ro);omega);have Gj:=zme l[i].1 l[i].2 (by omega);have e0:∀ z:Int,eI (z.natAbs:Int)=gI false (dig z.natAbs):=fun z=>by
    unfold eI;rw[show((z.natAbs:Int)).natAbs=z.natAbs by omega,wad (by omega)]
   rw[e0]at Gj;have Vk:=zaX l[i].1 l[i].2;unfold lN at Vk;have Of:=zxV (iv l[i].1 l[i].2).natAbs (gAll (l.take i)) (by omega) (by omega);rw[<-znK,<-Zd Yv]at Of
   (iterate 3((try simp only[go_sem,Y1,cI]);try simp(disch:=omega)only[Q6,QE,QG,Q8,Y1,cI]))
   refine⟨by omega,?_⟩;refine Q3 Gj rfl ?_
   (iterate 3((try simp only[go_sem]);try simp(disch:=omega)only[Q6,QE,QG,Q8]))
   refine Q3 Of rfl ?_
   (iterate 3((try simp only[go_sem]);try simp(disch:=omega)only[Q6]))
   refine⟨i+1,Yv,(by show l.length-(i+1)<l.length-i;omega),?_⟩;refine Q7 rfl ?_ ?_ rfl rfl<;>(iterate 3((try simp only[go_sem]);try simp(disch:=omega)only[Q6,QE,QG,Q8]))<;>simp
  .have:i=l.length:=by omega
   subst this;rw[Q1];simp only[go_sem];exact Zk .t .t
theorem zyU(l:List (Bool×List Nat))(hl:l.length<10000000000000)(hp:∀ p∈l,p.2.length<100000000000):Q9 prog 151 [tLI l] (eI (gAll l:Int)):=by
 refine QJ QC call151 func151 rfl ntmps151 results151 (by simp) (by decide) ?_;simp only[go_sem];refine Q3 (zrG l hl hp) rfl ?_;simp only[go_sem];exact Zk .t .t
theorem zuj(s:Bool)(a:List Nat)(t:Bool)(b:List Nat):gAll [(s,a),(t,b)]=Int.gcd (iv s a) (iv t b):=by
 show Nat.gcd (iv t b).natAbs (Nat.gcd (iv s a).natAbs 0)=_;rw[Nat.gcd_zero_right,wcL];rfl
theorem g_Of(s:Bool)(a:List Nat)(t:Bool)(b:List Nat)(ha:a.length<100000000000)(hb:b.length<100000000000):Q9 prog 167 [gI s a,gI t b] (eI (Int.gcd (iv s a) (iv t b):Int)):=by
 refine QJ QC call167 func167 rfl ntmps167 results167 (by simp) (by decide) ?_;simp only[go_sem];have hall:=zrG [(s,a),(t,b)] (by simp) (by simp;omega);rw[zuj]at hall;refine zkx 7 2 [.t (.lit (.bool false)),.t (.seq (some true) [])] (cs:=Q5 cI [(s,a),(t,b)]) rfl (Qd _) (by simp only[go_sem]<;>decide) (by simp only[go_sem]<;>rfl) (by simp only[go_sem]) (by decide) ?_;simp only[go_sem];refine zbM 7 2 2 rfl hall (by simp only[go_sem]<;>rfl) (Yl (f:=cI) (xs:=[(s,a),(t,b)]) ZN) ?_ ?_
 .simp only[go_sem]<;>rfl
 .simp only[go_sem]
  exact Zk .t .t
theorem zsU(xs:List Nat)(hl:xs.length<=9223372036854775807):Q9 prog 112 [tN xs] (tB (decide (IsN xs))):=by
 refine QJ QC call112 func112 rfl ntmps112 results112 (by simp) (by decide) ?_;simp only[go_sem];refine QK (fun i:Nat=>stL 26 [(0,.one (.t (eN xs))),(5,.one (.t (eN xs))),(6,litI .i64 xs.length),(7,litI .i64 i)] []) (fun i=>i<=xs.length/\∀ j (h:j<xs.length),j<i->xs[j]<1000000000) (fun i=>xs.length-i) 0 ?_ ⟨Qk _,fun j h hj=>Qo hj (waO _)⟩ ?_
 .refine Q7 rfl ?_ ?_ rfl rfl<;>simp only[go_sem]<;>simp
 .rintro i ⟨hi,YK⟩
  simp only[go_sem];refine QI (fun Yw=>?_) (fun YG=>?_)
  .have Yv:i<xs.length:=by omega
   simp only[go_sem,Q8 Yv,Yw];refine⟨by omega,QI (fun h=>?_) (fun h=>?_)⟩
   .simp only[go_sem]
    symm;simp only[decide_eq_false_iff_not];intro hc;have:=hc.1 xs[i] (Qh _);simp only[BB]at this;omega
   .simp only[go_sem]
    refine⟨i+1,⟨Yv,fun j hj K5=>?_⟩,(by show xs.length-(i+1)<xs.length-i;omega),?_⟩
    .by_cases e:j=i
     .subst e;omega
     .exact YK j hj (by omega)
    .refine Q7 rfl ?_ ?_ rfl rfl<;>simp only[go_sem,Q6 (n:=(i:Int)+1) (by omega) (by omega)]<;>simp
  .have Ua:i=xs.length:=by omega
   subst Ua;have hall:∀ x∈xs,x<BB:=fun x hx=>by
    obtain⟨j,hj,rfl⟩:=waK.1 hx;exact YK j hj hj
   simp only[go_sem];cases hx:xs with
   |nil =>
    simp only[go_sem];rfl
   |cons x l =>
    rw[hx]at hl hall;simp only[Qe]at hl;have hne:¬((l.length:Int)+1=0):=by omega
    have Y0:l.length<(x::l).length:=by simp
    (iterate 3((try simp only[go_sem,hne,show(l.length:Int)+1-1=(l.length:Int) by omega]);try simp(disch:=omega)only[Q6,QE,QG,Q8,hne,show(l.length:Int)+1-1=(l.length:Int) by omega]))
    have e:(x::l).getLast? = some ((x::l)[l.length]):=by simp[wco]
    have Y9:IsN (x::l)↔(x::l)[l.length]≠0:=by
     unfold IsN;rw[e];simp only[ne_eq,wa1];exact⟨fun h=>h.2,fun h=>⟨hall,h⟩⟩
    refine⟨by omega,?_⟩;rw[wax,Y9];omega
theorem zlP(neg:Bool)(mag:List Nat)(hl:mag.length<=9223372036854775807):Q9 prog 74 [gI neg mag] (tB (decide (IsI neg mag))):=by
 refine QJ QC call74 func74 rfl ntmps74 results74 (by simp) (by decide) ?_;simp only[go_sem];refine Q3 (zsU mag hl) rfl ?_;by_cases h:IsN mag
 .cases mag with
  |nil =>
   cases neg
   .simp only[go_sem,h]
    simp[IsI,h]
   .simp only[go_sem,h]
    simp[IsI]
  |cons x l =>
   have hp:(0:Int)<(l.length:Int)+1:=by omega
   simp only[go_sem,h,hp];simp[IsI,h]
 .simp only[go_sem,h]
  simp[IsI,h]
theorem zyq(neg:Bool)(mag:List Nat)(hl:mag.length<=9223372036854775807):Q9 prog 62 [gI neg mag] (if IsI neg mag then gS mag neg else gS [] false):=by
 refine QJ QC call62 func62 rfl ntmps62 results62 (by simp) (by decide) ?_;simp only[go_sem];refine Q3 (zlP neg mag hl) rfl ?_;by_cases h:IsI neg mag
 .rw[Qc h]
  simp only[go_sem,h];exact Zk .t .t
 .rw[Qb h]
  simp only[go_sem,h];exact Zk .weak .t
end Go.Proofs.YtlgjjcmljmjenaaGreat
