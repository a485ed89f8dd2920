/- At every input the call answers true and leaves its arguments as they were; no conditions. -/
import Derived.Test.YtlgjjcmljmjenaaGreatHa
set_option linter.unusedSimpArgs false
set_option linter.unusedVariables false
set_option maxRecDepth 100000
set_option maxHeartbeats 4000000
namespace Go.Proofs.YtlgjjcmljmjenaaGreat
open Go Go.Abs Go.Proofs.Tryz
abbrev gQ(s:Bool)(a d:List Nat):TV:=.agg [.lit (.bool s),eN a,eN d]
def IsQ(s:Bool)(a d:List Nat):Prop:=IsI s a/\IsN d/\d≠[]/\Int.gcd (iv s a) (val d:Int)=1
instance (s:Bool) (a d:List Nat):Decidable (IsQ s a d):=by unfold IsQ;exact inferInstance
def qv(s:Bool)(a d:List Nat):Rat:=if IsQ s a d then mkRat (iv s a) (val d)else 0
abbrev eQ(r:Rat):TV:=gQ (decide (r.num<0)) (dig r.num.natAbs) (dig r.den)
theorem IsQ.pos{s:Bool}{a d:List Nat}(h:IsQ s a d):val d≠0:=fun e=>h.2.2.1 ((zia h.2.1).1 e)
theorem IsQ.parts{s:Bool}{a d:List Nat}(h:IsQ s a d):(qv s a d).num=iv s a/\(qv s a d).den=val d:=by
 unfold qv;rw[Qc h,<-Rat.mk_eq_mkRat (iv s a) (val d) h.pos h.2.2.2];exact⟨rfl,rfl⟩
theorem zy4{s:Bool}{a d:List Nat}(h:IsQ s a d):gQ s a d=eQ (qv s a d):=by
 obtain⟨h1,h2⟩:=h.parts;unfold eQ;rw[h1,h2];have e:=zhV h.1;unfold eI at e;injection e with e
 injection e with e1 e2
 injection e1 with e1
 injection e1 with e1
 injection e2 with e2 _
 have e3:dig (val d)=d:=h.2.1.trimZ;show TV.agg [.lit (.bool s),eN a,eN d]=TV.agg [.lit (.bool (decide (iv s a<0))),eN (dig (iv s a).natAbs),eN (dig (val d))];rw[<-e1,<-e2,e3]
theorem zx5(r:Rat):IsQ (decide (r.num<0)) (dig r.num.natAbs) (dig r.den):=by
 refine⟨zhw _,zjb _,fun e=>r.den_nz (Yt.1 e),?_⟩;rw[Z2,za5];exact r.reduced
theorem zrn(r:Rat):qv (decide (r.num<0)) (dig r.num.natAbs) (dig r.den)=r:=by
 obtain⟨h1,h2⟩:=(zx5 r).parts;rw[Z2]at h1;rw[za5]at h2;exact Rat.ext h1 h2
theorem zf8:dig 1=[1]:=by
 rw[zce (by decide)];simp[BB,Zi]
theorem zwz:eQ 0=gQ false [] [1]:=by
 unfold eQ;simp[Zi,zf8]
theorem zx6(p:Int):eQ (p:Rat)=gQ (decide (p<0)) (dig p.natAbs) [1]:=by
 unfold eQ;rw[show((p:Rat)).num=p from rfl,show((p:Rat)).den=1 from rfl,zf8]
theorem znm(n:Int){d:Nat}(hd:d≠0):(mkRat n d).num=(if n<0 then -((n.natAbs/Int.gcd n d:Nat):Int)else((n.natAbs/Int.gcd n d:Nat):Int))/\(mkRat n d).den=d/Int.gcd n d:=by
 have hg:Int.gcd n d=d.gcd n.natAbs:=by unfold Int.gcd;rw[wbv,wcL]
 rw[Rat.num_mkRat,Rat.den_mkRat,Qb hd,Qb hd,hg];refine⟨?_,rfl⟩;obtain⟨k,hk⟩:=Nat.gcd_dvd_right d n.natAbs;have JM:0<d.gcd n.natAbs:=Nat.gcd_pos_of_pos_left _ (by omega);generalize d.gcd n.natAbs=g at *
 rw[hk,Nat.mul_div_cancel_left _ JM];by_cases hn:n<0
 .rw[Qc hn,show n=(g:Int) * -(k:Int) by rw[wb1,<-wbY,<-hk];omega,wem _ (by omega)]
 .rw[Qb hn,show n=(g:Int)*(k:Int) by rw[<-wbY,<-hk];omega,wem _ (by omega)]
def lQ(x:Rat):Nat:=max (lN x.num) (lN (x.den:Int))
theorem zbx(n:Nat):lN (n:Int)=(dig n).length:=rfl
theorem zaD(x:Rat):lN x.num<=lQ x:=wbK ..
theorem zbl(x:Rat):lN (x.den:Int)<=lQ x:=wbG ..
theorem zxF(x:Rat):1<=lQ x:=by
 have h:=zbl x;rw[zbx]at h;have:(dig x.den).length≠0:=fun e=>x.den_nz (Yt.1 (wbd.1 e))
 omega
theorem zgA{x:Rat}{n:Nat}(h1:lN x.num<=n)(h2:lN (x.den:Int)<=n):lQ x<=n:=Nat.max_le.2 ⟨h1,h2⟩
theorem zjC(n:Int){d:Nat}(hd:d≠0):lQ (mkRat n d)<=max (lN n) (lN (d:Int)):=by
 obtain⟨h1,h2⟩:=znm n hd;refine zgA (Qn (zeF (y:=n) ?_) (wbK ..)) (Qn (zeF (y:=(d:Int)) ?_) (wbG ..))
 .rw[h1]
  have:=wci n.natAbs (Int.gcd n d);generalize n.natAbs/Int.gcd n d=k at *
  split
  .rw[wcv,wbv];exact this
  .rw[wbv];exact this
 .rw[h2]
  have:=wci d (Int.gcd n d);omega
theorem zxG(x y:Rat):lQ (x+y)<=lQ x+lQ y+1:=by
 rw[Rat.add_def'];refine Qn (zjC _ (wc3 x.den_nz y.den_nz)) ?_;have h1:=za6 (x.num*y.den) (y.num*x.den);have h2:=ZX x.num y.den;have h3:=ZX y.num x.den;have h4:=ZX x.den y.den;have a1:=zaD x;have a2:=zaD y;have a3:=zbl x;have a4:=zbl y;rw[wbY];omega
theorem zff(x:Rat):lQ (-x)=lQ x:=by
 unfold lQ;rw[Rat.neg_num,Rat.neg_den,Zs]
theorem zxH(x y:Rat):lQ (x-y)<=lQ x+lQ y+1:=by
 rw[Rat.sub_eq_add_neg];have:=zxG x (-y);rwa[zff]at this
theorem zfg(x y:Rat):lQ (x*y)<=lQ x+lQ y:=by
 rw[Rat.mul_def'];refine Qn (zjC _ (wc3 x.den_nz y.den_nz)) ?_;have h2:=ZX x.num y.num;have h4:=ZX x.den y.den;have a1:=zaD x;have a2:=zaD y;have a3:=zbl x;have a4:=zbl y;rw[wbY];omega
theorem zfh(p:Int):lQ (p:Rat)<=max (lN p) 1:=by
 refine zgA ?_ ?_
 .rw[Rat.num_intCast];omega
 .rw[Rat.den_intCast,zbx,zf8];exact wbG ..
theorem zi1:lQ 0<=1:=by have:=zfh 0;rw[ZI]at this;exact this
theorem zqg:lQ 1<=1:=by
 have h:=zfh 1;have h2:=zcL;exact Qn h (by omega)
theorem zjn(x:Rat):lQ x⁻¹<=lQ x:=by
 refine zgA ?_ ?_
 .rw[Rat.num_inv]
  refine Qn (zeF (y:=(x.den:Int)) ?_) (zbl x);rw[wbb];rcases zgD x.num with⟨_,h⟩|⟨_,h⟩|⟨_,h⟩<;>rw[h]<;>simp
 .rw[Rat.den_inv]
  split
  .rw[zbx,zf8];exact zxF x
  .rw[zhp];exact zaD x
theorem zl9(s:Bool)(a d:List Nat):lQ (qv s a d)<=max (max a.length d.length) 1:=by
 by_cases h:IsQ s a d
 .obtain⟨h1,h2⟩:=h.parts
  refine zgA ?_ ?_
  .rw[h1];have:=zaX s a;omega
  .rw[h2,zbx,h.2.1.trimZ];omega
 .unfold qv;rw[Qb h];have:=zi1;omega
theorem zkk(p q:Int):lQ (Rat.divInt p q)<=max (max (lN p) (lN q)) 1:=by
 by_cases hq:q=0
 .subst hq;rw[Rat.divInt_zero];have:=zi1;omega
 .have hn:q.natAbs≠0:=by omega
  by_cases h:q<0
  .rw[<-Rat.neg_divInt_neg,show -q=((q.natAbs:Nat):Int) by omega,wc4]
   have:=zjC (-p) hn;rw[Zs,zhp]at this;omega
  .obtain⟨m,rfl⟩:∃ m:Nat,q=m:=⟨q.natAbs,by omega⟩
   rw[wc4];have:=zjC p (d:=m) (by omega);omega
theorem znL(x:Rat):lN x.floor<=lN x.num+1:=by
 rw[Rat.floor_def,<-wcw _ (by omega)];exact zas _ _
theorem zsu(x:Rat):x.floor=Int.fdiv x.num x.den:=by
 rw[Rat.floor_def,<-wcw _ (by omega)]
theorem zuh(n:Int){d:Nat}(hd:d≠0):eQ (mkRat n d)=gQ (decide (n<0)) (dig (n.natAbs/Int.gcd n d)) (dig (d/Int.gcd n d)):=by
 obtain⟨h1,h2⟩:=znm n hd;have hg:Int.gcd n d≠0:=fun e=>hd (by have:=(Int.gcd_eq_zero_iff.1 e).2;omega)
 have hk:n≠0->0<n.natAbs/Int.gcd n d:=fun hn=>Nat.div_pos (Nat.le_of_dvd (by omega) (by have:=Int.natAbs_dvd_natAbs.2 (Int.gcd_dvd_left n d);rwa[wbv]at this)) (by omega)
 unfold eQ;rw[h1,h2];generalize n.natAbs/Int.gcd n d=k at *
 congr 2;all_goals(by_cases h:n<0)
 .have:=hk (by omega);rw[Qc h];simp[h];omega
 .rw[Qb h];simp[h]
 .rw[Qc h];simp
 .rw[Qb h];simp
theorem zid{x:Rat}(h:x.den=1):x=(x.num:Rat):=Rat.ext rfl h
theorem zmF{n:Nat}:dig n=[1]↔n=1:=by
 refine⟨fun h=>?_,fun h=>by rw[h,zf8]⟩;have:=congrArg val h;rw[za5]at this;rw[this];simp[val]
theorem Zt{H:QD}{a b c:C}{x y z:T}(h1:FzC H a x)(h2:FzC H b y)(h3:FzC H c z):FzA H (.agg [a,b,c]) (.agg [x,y,z]):=.agg rfl fun j h h'=>by
 match j,h,h' with
 |0,_,_=>exact h1
 |1,_,_=>exact h2
 |2,_,_=>exact h3
 |j+3,h,_=>simp at h;omega
theorem zzo(s:Bool)(a d:List Nat):Q9 prog 138 [gQ s a d] (tB (decide (d=[1]))):=by
 refine QJ QC call138 func138 rfl ntmps138 results138 (by simp) (by decide) ?_
 match d with
 |[]=>simp only[go_sem]<;>decide
 |[x] =>
  have Y1:QM Zo [x] 0=[.lit (.int .u32 (x:Int))]:=rfl;simp only[go_sem,Y1];simp;omega
 |x::y::l =>
  have h1:((l.length:Int)+1+1=1)=False:=Ql (by omega);simp only[go_sem,h1];simp
theorem zzp(s:Bool)(a d:List Nat):Q9 prog 105 [gQ s a d] (gQ s a d):=by
 refine QJ QC call105 func105 rfl ntmps105 results105 (by simp) (by decide) ?_;simp only[go_sem];exact Zt .t .t .t
theorem zxe(s:Bool)(a d:List Nat):Q9 prog 150 [gQ s a d] (gI false d):=by
 refine QJ QC call150 func150 rfl ntmps150 results150 (by simp) (by decide) ?_;simp only[go_sem];exact Zk .t .t
theorem zyA(s:Bool)(a d:List Nat)(ha:a.length<1000000000000):Q9 prog 104 [gQ s a d] (tI .i64 (iv s a).sign):=by
 refine QJ QC call104 func104 rfl ntmps104 results104 (by simp) (by decide) ?_;simp only[go_sem];refine Q3 (zfi s a (by omega)) rfl ?_;simp only[go_sem]
theorem zoG(s:Bool)(a:List Nat):Q9 prog 146 [gI s a] (gQ s a [1]):=by
 refine QJ QC call146 func146 rfl ntmps146 results146 (by simp) (by decide) ?_;simp only[go_sem];exact Zt .t .t .weak
theorem zhl(x:Rat):Q9 prog 138 [eQ x] (tB (decide (x.den=1))):=by
 have:=zzo (decide (x.num<0)) (dig x.num.natAbs) (dig x.den)
 rwa[wax.2 zmF]at this
theorem ze3(x:Rat)(ha:lQ x<1000000000000):Q9 prog 104 [eQ x] (tI .i64 x.num.sign):=by
 have:=zyA (decide (x.num<0)) (dig x.num.natAbs) (dig x.den) (by have:=zaD x;unfold lN at this;omega)
 rwa[Z2]at this
theorem zkB(x:Rat):Q9 prog 150 [eQ x] (eI (x.den:Int)):=by
 have:=zxe (decide (x.num<0)) (dig x.num.natAbs) (dig x.den)
 rwa[show gI false (dig x.den)=eI (x.den:Int) by unfold eI;rw[wad (by omega)];rfl]at this
theorem zkg(p:Int):Q9 prog 146 [eI p] (eQ (p:Rat)):=by
 have:=zoG (decide (p<0)) (dig p.natAbs)
 rwa[<-zx6]at this
abbrev gI0:TV:=.agg [.lit (.bool false),.seq (some true) []]
theorem zkh:Q9 prog 146 [gI0] (eQ 0):=by
 have:=zoG false [];rw[<-zwz]at this;exact this.fz (.cons (Zk .t .weak) .nil)
theorem zhm(s:Bool)(a:List Nat)(ha:a.length<1000000000000):Q9 prog 81 [gI s a,gI0] (eI (iv s a)):=by
 have Gm:=zjM s a false [] (by omega) (by simp);rw[show iv false []=0 by decide,wa9]at Gm;exact Gm.fz (.cons (Zk .t .t) (.cons (Zk .t .weak) .nil))
theorem zmm(s:Bool)(a:List Nat)(ha:a.length<1000000000000):Q9 prog 102 [gI s a] (eQ ((iv s a:Int):Rat)):=by
 refine QJ QC call102 func102 rfl ntmps102 results102 (by simp) (by decide) ?_;simp only[go_sem];refine Q3 (zhm s a ha) rfl ?_;simp only[go_sem];refine Q3 (zkg _) rfl ?_;simp only[go_sem];exact Zt .t .t .t
theorem zji(n:Int)(d:Nat)(hd:d≠0)(hn:lN n<10000000000)(Vn:lN (d:Int)<10000000000):Q9 prog 148 [eI n,tN (dig d)] (eQ (mkRat n d)):=by
 rw[zuh n hd];refine QJ QC call148 func148 rfl ntmps148 results148 (by simp) (by decide) ?_;have J7:=g_Of (decide (n<0)) (dig n.natAbs) false (dig d) (by unfold lN at hn;omega) (by rw[zbx]at Vn;omega);rw[Z2,show iv false (dig d)=(d:Int) by have:=Z2 (d:Int);rwa[wad (by omega)]at this]at J7;have GS:=zq0 n d;have e0:∀ m:Nat,eI (m:Int)=gI false (dig m):=fun m=>by unfold eI;rw[wad (by omega)];rfl
 rw[e0]at J7;have KY:=ziz (dig n.natAbs) (dig (Int.gcd n d)) (by unfold lN at hn;omega) (by rw[zbx]at GS;omega);have K9:=ziz (dig d) (dig (Int.gcd n d)) (by rw[zbx]at Vn;omega) (by rw[zbx]at GS;omega);rw[Zx,Zx]at KY K9;simp only[go_sem];refine Q3 J7 rfl ?_;by_cases h1:Int.gcd n d=1
 .have Y1:QM Zo [1] 0=[.lit (.int .u32 1)]:=rfl
  rw[h1,Nat.div_one,Nat.div_one,zf8];simp only[go_sem,Y1];exact Zt .t .t .t
 .have hne:dig (Int.gcd n d)≠[1]:=fun e=>h1 (zmF.1 e)
  generalize Int.gcd n d=g at *
  generalize hk:dig g=k at *
  match k with
  |[] =>
   simp only[go_sem]
   (repeat(first|(refine Q4 0 rfl ?_;simp only[go_sem])|(refine Q3 (KY) rfl ?_;simp only[go_sem])|(refine Q3 (K9) rfl ?_;simp only[go_sem])))
   exact Zt .t .t .t
  |[x] =>
   have hx:((x:Int)=1)=False:=Ql (by simp at hne;omega);have Y1:QM Zo [x] 0=[.lit (.int .u32 (x:Int))]:=rfl;simp only[go_sem,Y1,hx]
   (repeat(first|(refine Q4 0 rfl ?_;simp only[go_sem,Y1,hx])|(refine Q3 (KY) rfl ?_;simp only[go_sem])|(refine Q3 (K9) rfl ?_;simp only[go_sem])))
   exact Zt .t .t .t
  |x::y::l =>
   have hx:((l.length:Int)+1+1=1)=False:=Ql (by omega);simp only[go_sem,hx]
   (repeat(first|(refine Q4 0 rfl ?_;simp only[go_sem,hx])|(refine Q3 (KY) rfl ?_;simp only[go_sem])|(refine Q3 (K9) rfl ?_;simp only[go_sem])))
   exact Zt .t .t .t
theorem zt7(x y:Rat):mkRat (x.num*y.den+y.num*x.den) (x.den*y.den)=x+y:=(Rat.add_def' x y).symm
theorem zgx(x y:Rat)(hx:lQ x<4000000000)(hy:lQ y<4000000000):Q9 prog 110 [eQ x,eQ y] (eQ (x+y)):=by
 refine QJ QC call110 func110 rfl ntmps110 results110 (by simp) (by decide) ?_;have nx:=zaD x;have ny:=zaD y;have dx:=zbl x;have dy:=zbl y;simp only[go_sem];refine Q3 (zhl x) rfl ?_;have Jl:Q9 prog 148 [eI (x.num*y.den+y.num*x.den),tN (dig (x.den*y.den))] (eQ (x+y)):=by
  have z1:=ZX x.num y.den;have z2:=ZX y.num x.den;have z3:=ZX x.den y.den;have z4:=za6 (x.num*y.den) (y.num*x.den);rw[<-zt7];exact zji _ _ (wc3 x.den_nz y.den_nz) (by omega) (by rw[wbY];omega)
 have m1:=zdJ x.num y.den (by omega) (by omega);have m2:=zdJ y.num x.den (by omega) (by omega);have m3:=zc7 (x.num*y.den) (y.num*x.den) (by have:=ZX x.num y.den;omega) (by have:=ZX y.num x.den;omega);have m4:=zim (dig x.den) (dig y.den) (by rw[zbx]at dx;omega) (by rw[zbx]at dy;omega);rw[Zx,Zx]at m4;have b1:=zkB x;have b2:=zkB y;by_cases h1:x.den=1
 .have e1:(x.den=1)=True:=Qf h1
  simp only[go_sem,e1];refine Q3 (zhl y) rfl ?_;by_cases h2:y.den=1
  .have ad:=zc7 x.num y.num (by omega) (by omega)
   have wh:=zkg (x.num+y.num);rw[show((x.num+y.num:Int):Rat)=x+y by rw[wcu,<-zid h1,<-zid h2]]at wh;have e2:(y.den=1)=True:=Qf h2;simp only[go_sem,e2];refine Q3 ad rfl ?_;simp only[go_sem];refine Q3 wh rfl ?_;simp only[go_sem];exact Zt .t .t .t
  .simp only[go_sem,h2]
   (repeat(first|(refine Q4 0 rfl ?_;simp only[go_sem])|(refine Q3 (b1) rfl ?_;simp only[go_sem])|(refine Q3 (b2) rfl ?_;simp only[go_sem])|(refine Q3 (m1) rfl ?_;simp only[go_sem])|(refine Q3 (m2) rfl ?_;simp only[go_sem])|(refine Q3 (m3) rfl ?_;simp only[go_sem])|(refine Q3 (m4) rfl ?_;simp only[go_sem])|(refine Q3 (Jl) rfl ?_;simp only[go_sem])))
   exact Zt .t .t .t
 .simp only[go_sem,h1]
  (repeat(first|(refine Q4 0 rfl ?_;simp only[go_sem])|(refine Q3 (b1) rfl ?_;simp only[go_sem])|(refine Q3 (b2) rfl ?_;simp only[go_sem])|(refine Q3 (m1) rfl ?_;simp only[go_sem])|(refine Q3 (m2) rfl ?_;simp only[go_sem])|(refine Q3 (m3) rfl ?_;simp only[go_sem])|(refine Q3 (m4) rfl ?_;simp only[go_sem])|(refine Q3 (Jl) rfl ?_;simp only[go_sem])))
  exact Zt .t .t .t
theorem zhn(x:Rat)(hx:lQ x<4000000000):Q9 prog 107 [eQ x] (eQ (-x)):=by
 refine QJ QC call107 func107 rfl ntmps107 results107 (by simp) (by decide) ?_;have nx:=zaD x;have hn:=zbO x.num (by omega);simp only[go_sem];refine Q4 0 rfl ?_;simp only[go_sem];refine Q3 hn rfl ?_;simp only[go_sem];exact Zt .t .t .t
theorem zgj(x y:Rat)(hx:lQ x<4000000000)(hy:lQ y<4000000000):Q9 prog 108 [eQ x,eQ y] (eQ (x*y)):=by
 refine QJ QC call108 func108 rfl ntmps108 results108 (by simp) (by decide) ?_;have nx:=zaD x;have ny:=zaD y;have dx:=zbl x;have dy:=zbl y;simp only[go_sem];refine Q3 (zhl x) rfl ?_;have Jl:Q9 prog 148 [eI (x.num*y.num),tN (dig (x.den*y.den))] (eQ (x*y)):=by
  have z1:=ZX x.num y.num;have z3:=ZX x.den y.den;rw[Rat.mul_def'];exact zji _ _ (wc3 x.den_nz y.den_nz) (by omega) (by rw[wbY];omega)
 have m1:=zdJ x.num y.num (by omega) (by omega);have m4:=zim (dig x.den) (dig y.den) (by rw[zbx]at dx;omega) (by rw[zbx]at dy;omega);rw[Zx,Zx]at m4;by_cases h1:x.den=1
 .have e1:(x.den=1)=True:=Qf h1
  simp only[go_sem,e1];refine Q3 (zhl y) rfl ?_;by_cases h2:y.den=1
  .have wh:=zkg (x.num*y.num)
   rw[show((x.num*y.num:Int):Rat)=x*y by rw[wbV,<-zid h1,<-zid h2]]at wh;have e2:(y.den=1)=True:=Qf h2;simp only[go_sem,e2];refine Q3 m1 rfl ?_;simp only[go_sem];refine Q3 wh rfl ?_;simp only[go_sem];exact Zt .t .t .t
  .simp only[go_sem,h2]
   (repeat(first|(refine Q4 0 rfl ?_;simp only[go_sem])|(refine Q3 (m1) rfl ?_;simp only[go_sem])|(refine Q3 (m4) rfl ?_;simp only[go_sem])|(refine Q3 (Jl) rfl ?_;simp only[go_sem])))
   exact Zt .t .t .t
 .simp only[go_sem,h1]
  (repeat(first|(refine Q4 0 rfl ?_;simp only[go_sem])|(refine Q3 (m1) rfl ?_;simp only[go_sem])|(refine Q3 (m4) rfl ?_;simp only[go_sem])|(refine Q3 (Jl) rfl ?_;simp only[go_sem])))
  exact Zt .t .t .t
theorem zyB{x:Rat}(h:x.num≠0):eQ x⁻¹=gQ (decide (x.num<0)) (dig x.den) (dig x.num.natAbs):=by
 unfold eQ;have hd:=x.den_nz;rw[Rat.num_inv,Rat.den_inv,Qb h,wbb,wbv];rcases zgD x.num with⟨h0,e⟩|⟨h0,e⟩|⟨h0,e⟩
 .rw[e]
  rw[waA (show(-1:Int)*(x.den:Int)<0 by omega),waA h0,show(-1:Int).natAbs*x.den=x.den by simp]
 .exact Qo h0 h
 .rw[e]
  rw[wad (show ¬(1:Int)*(x.den:Int)<0 by omega),wad (show ¬x.num<0 by omega),show(1:Int).natAbs*x.den=x.den by simp]
theorem zlZ(x:Rat)(hx:lQ x<4000000000):Q9 prog 109 [eQ x] (eQ x⁻¹):=by
 by_cases h:x.num=0
 .have hs:=ze3 x (by omega)
  rw[h,show(0:Int).sign=0 from rfl]at hs;rw[show x⁻¹=0 by rw[wdk.1 h,Rat.inv_zero]];refine QJ QC call109 func109 rfl ntmps109 results109 (by simp) (by decide) ?_;simp only[go_sem];refine Q3 hs rfl ?_;simp only[go_sem];refine Q3 zkh rfl ?_;simp only[go_sem];exact Zt .t .t .t
 .have hs:=ze3 x (by omega)
  have hne:=zcx h;rw[zyB h];refine QJ QC call109 func109 rfl ntmps109 results109 (by simp) (by decide) ?_;simp only[go_sem];refine Q3 hs rfl ?_;simp only[go_sem,hne];exact Zt .t .t .t
theorem zvL(x:Rat)(hx:lQ x<4000000000):Q9 prog 166 [eQ x] (eI x.floor):=by
 refine QJ QC call166 func166 rfl ntmps166 results166 (by simp) (by decide) ?_;have nx:=zaD x;have dx:=zbl x;have b1:=zkB x;have fl:=zeh x.num x.den (by omega) (by omega);rw[<-zsu]at fl;simp only[go_sem]
 (repeat(first|(refine Q4 0 rfl ?_;simp only[go_sem])|(refine Q3 (b1) rfl ?_;simp only[go_sem])|(refine Q3 (fl) rfl ?_;simp only[go_sem])))
 exact Zk .t .t
theorem q_Is(s:Bool)(a d:List Nat)(ha:a.length<4000000000)(hd:d.length<4000000000):Q9 prog 164 [gQ s a d] (tB (decide (IsQ s a d))):=by
 refine QJ QC call164 func164 rfl ntmps164 results164 (by simp) (by decide) ?_;have i1:=zjU s a (by omega);have i2:=zkX d (by omega);simp only[go_sem];refine Q3 i1 rfl ?_;by_cases hI:IsI s a
 .simp only[go_sem,hI]
  refine Q3 i2 rfl ?_;by_cases hN:IsN d
  .have e:((d.length:Int)=0)=(d=[]):=by rw[eq_iff_iff];cases d<;>simp;omega
   simp only[go_sem,hN,e];by_cases h0:d=[]
   .have e0:(d=[])=True:=Qf h0
    simp only[go_sem,e0];simp[IsQ,h0]
   .have hg:=g_Of s a false d (by omega) (by omega)
    have hv:iv false d=(val d:Int):=by unfold iv;rw[Qc ⟨hN,.inr rfl⟩];simp
    rw[hv]at hg;have GS:=zq0 (iv s a) (val d);have UC:=zaX s a;have WS:lN (val d:Int)=d.length:=by rw[zbx,hN.trimZ]
    have ho:=zbP 1 (by omega) (by omega);have hs:=ziJ (Int.gcd (iv s a) (val d)) 1 (by omega) (by have:=zcL;omega);have ef:decide (IsQ s a d)=decide ((Int.gcd (iv s a) (val d):Int)=1):=by
     rw[wax];unfold IsQ;exact⟨fun h=>by rw[h.2.2.2];rfl,fun h=>⟨hI,hN,h0,by omega⟩⟩
    rw[ef];simp only[go_sem,h0]
    (repeat(first|(refine Q4 0 rfl ?_;simp only[go_sem])|(refine Q3 (hg) rfl ?_;simp only[go_sem])|(refine Q3 (ho) rfl ?_;simp only[go_sem])|(refine Q3 (hs) rfl ?_;simp only[go_sem])))
  .simp only[go_sem,hN]
   simp[IsQ,hN]
 .simp only[go_sem,hI]
  simp[IsQ,hI]
theorem zl0(s:Bool)(a d:List Nat)(ha:a.length<4000000000)(hd:d.length<4000000000):Q9 prog 137 [gQ s a d] (eQ (qv s a d)):=by
 refine QJ QC call137 func137 rfl ntmps137 results137 (by simp) (by decide) ?_;have i1:=q_Is s a d ha hd;simp only[go_sem];refine Q3 i1 rfl ?_;by_cases h:IsQ s a d
 .rw[<-zy4 h]
  simp only[go_sem,h];exact Zt .t .t .t
 .rw[show qv s a d=0 from Qb h]
  simp only[go_sem,h];refine Q3 zkh rfl ?_;simp only[go_sem];exact Zt .t .t .t
theorem zu5(x:Rat)(hx:lQ x<4000000000):Q9 prog 137 [eQ x] (eQ x):=by
 have nx:=zaD x;have dx:=zbl x;have:=zl0 (decide (x.num<0)) (dig x.num.natAbs) (dig x.den) (by unfold lN at nx;omega) (by rw[zbx]at dx;omega)
 rwa[zrn]at this
theorem zi8(x:Rat):Q9 prog 105 [eQ x] (eQ x):=zzp _ _ _
theorem q_Of(s:Bool)(a:List Nat)(t:Bool)(b:List Nat)(ha:a.length<4000000000)(hb:b.length<4000000000):Q9 prog 133 [gI s a,gI t b] (eQ (Rat.divInt (iv s a) (iv t b))):=by
 refine QJ QC call133 func133 rfl ntmps133 results133 (by simp) (by decide) ?_;have hs:=zfi t b (by omega);have hA:=zme t b (by omega);have hN:=zrs s a (by omega);have h0:=zhm s a (by omega);have l1:=zaX s a;have l2:=zaX t b;generalize iv s a=p at *
 generalize iv t b=q at *
 simp only[go_sem];refine Q3 hs rfl ?_;have e0:∀ m:Nat,eI (m:Int)=gI false (dig m):=fun m=>by unfold eI;rw[wad (by omega)];rfl
 rw[e0]at hA;by_cases hq:q=0
 .have e:(0:Int).sign=0:=rfl
  subst hq;rw[Rat.divInt_zero];have r0:=zi8 0;simp only[go_sem,e]
  (repeat(first|(refine Q4 0 rfl ?_;simp only[go_sem])|(refine Q3 (zkh) rfl ?_;simp only[go_sem])|(refine Q3 (r0) rfl ?_;simp only[go_sem])))
  exact Zt .t .t .t
 .have hne:=zcx hq
  have GZ:q.natAbs≠0:=by omega
  have r0:=zi8 (Rat.divInt p q);simp only[go_sem,hne];refine Q3 hs rfl ?_;by_cases hn:q<0
  .have UL:q.sign = -1:=wcl hn
   have h3:=zhm (decide (-p<0)) (dig (-p).natAbs) (by have:=Zs p;unfold lN at this l1;omega);rw[Z2]at h3;have sh:=zji (-p) q.natAbs GZ (by rw[Zs];omega) (by rw[zhp];omega);rw[<-wc4,show((q.natAbs:Nat):Int) = -q by omega,Rat.neg_divInt_neg]at sh;simp only[go_sem,UL];refine Q3 hN rfl ?_;simp only[go_sem]
   (repeat(first|(refine Q4 0 rfl ?_;simp only[go_sem])|(refine Q3 (h3) rfl ?_;simp only[go_sem])|(refine Q3 (hA) rfl ?_;simp only[go_sem])|(refine Q3 (sh) rfl ?_;simp only[go_sem])|(refine Q3 (r0) rfl ?_;simp only[go_sem])))
   exact Zt .t .t .t
  .have UL:q.sign=1:=wbJ (by omega)
   have sh:=zji p q.natAbs GZ (by omega) (by rw[zhp];omega);rw[<-wc4,show((q.natAbs:Nat):Int)=q by omega]at sh;simp only[go_sem,UL]
   (repeat(first|(refine Q4 0 rfl ?_;simp only[go_sem])|(refine Q3 (h0) rfl ?_;simp only[go_sem])|(refine Q3 (hA) rfl ?_;simp only[go_sem])|(refine Q3 (sh) rfl ?_;simp only[go_sem])|(refine Q3 (r0) rfl ?_;simp only[go_sem])))
   exact Zt .t .t .t
theorem zqD(p q:Int)(ha:lN p<4000000000)(hb:lN q<4000000000):Q9 prog 133 [eI p,eI q] (eQ (Rat.divInt p q)):=by
 have:=q_Of (decide (p<0)) (dig p.natAbs) (decide (q<0)) (dig q.natAbs) ha hb;rwa[Z2,Z2]at this
theorem zwO(s:Bool)(a d:List Nat)(ha:a.length<1900000000)(hd:d.length<1900000000):Q9 prog 141 [gQ s a d] (eI ((qv s a d)).floor):=by
 refine QJ QC call141 func141 rfl ntmps141 results141 (by simp) (by decide) ?_;have hx:=zl0 s a d (by omega) (by omega);have lx:=zl9 s a d;generalize qv s a d=x at *
 have hf:=zvL x (by omega);simp only[go_sem]
 (repeat(first|(refine Q4 0 rfl ?_;simp only[go_sem])|(refine Q3 (hx) rfl ?_;simp only[go_sem])|(refine Q3 (hf) rfl ?_;simp only[go_sem])))
 exact Zk .t .t
theorem zwP(s:Bool)(a d:List Nat)(ha:a.length<1900000000)(hd:d.length<1900000000):Q9 prog 91 [gQ s a d] (tB (decide (((qv s a d)).den=1))):=by
 refine QJ QC call91 func91 rfl ntmps91 results91 (by simp) (by decide) ?_;have hx:=zl0 s a d (by omega) (by omega);have lx:=zl9 s a d;generalize qv s a d=x at *
 have ho:=zhl x;simp only[go_sem]
 (repeat(first|(refine Q4 0 rfl ?_;simp only[go_sem])|(refine Q3 (hx) rfl ?_;simp only[go_sem])|(refine Q3 (ho) rfl ?_;simp only[go_sem])))
end Go.Proofs.YtlgjjcmljmjenaaGreat
