/- At every input the call answers true and leaves its arguments as they were; no conditions. -/
import Derived.Test.YtlgjjcmljmjenaaGreatHa
set_option linter.unusedSimpArgs false
set_option linter.unusedVariables false
set_option maxRecDepth 100000
set_option maxHeartbeats 4000000
namespace Go.Proofs.YtlgjjcmljmjenaaGreat
open Go Go.Abs Go.Proofs.Tryz
abbrev gQ(s:Bool)(a d:List Nat):TV:=.agg [.lit (.bool s),eN a,eN d]
def IsQ(s:Bool)(a d:List Nat):Prop:=IsI s a/\IsN d/\d≠[]/\Int.gcd (iv s a) (val d:Int)=1
instance (s:Bool) (a d:List Nat):Decidable (IsQ s a d):=by unfold IsQ;exact inferInstance
def qv(s:Bool)(a d:List Nat):Rat:=if IsQ s a d then mkRat (iv s a) (val d)else 0
abbrev eQ(r:Rat):TV:=gQ (decide (r.num<0)) (dig r.num.natAbs) (dig r.den)
theorem IsQ.pos{s:Bool}{a d:List Nat}(h:IsQ s a d):val d≠0:=fun e=>h.2.2.1 ((zgX h.2.1).1 e)
theorem IsQ.parts{s:Bool}{a d:List Nat}(h:IsQ s a d):(qv s a d).num=iv s a/\(qv s a d).den=val d:=by
 unfold qv;rw[Qc h,<-Rat.mk_eq_mkRat (iv s a) (val d) h.pos h.2.2.2];exact⟨rfl,rfl⟩
theorem zyV{s:Bool}{a d:List Nat}(h:IsQ s a d):gQ s a d=eQ (qv s a d):=by
 obtain⟨h1,h2⟩:=h.parts;unfold eQ;rw[h1,h2];have e:=zj4 h.1;unfold eI at e;injection e with e
 injection e with e1 e2
 injection e1 with e1
 injection e1 with e1
 injection e2 with e2 _
 have e3:dig (val d)=d:=h.2.1.trimZ;show TV.agg [.lit (.bool s),eN a,eN d]=TV.agg [.lit (.bool (decide (iv s a<0))),eN (dig (iv s a).natAbs),eN (dig (val d))];rw[<-e1,<-e2,e3]
theorem zxW(r:Rat):IsQ (decide (r.num<0)) (dig r.num.natAbs) (dig r.den):=by
 refine⟨zjG _,zjm _,fun e=>r.den_nz (Yc.1 e),?_⟩;rw[Zn,zaX];exact r.reduced
theorem zrf(r:Rat):qv (decide (r.num<0)) (dig r.num.natAbs) (dig r.den)=r:=by
 obtain⟨h1,h2⟩:=(zxW r).parts;rw[Zn]at h1;rw[zaX]at h2;exact Rat.ext h1 h2
theorem zgj:dig 1=[1]:=by
 rw[zce (by decide)];simp[BB,Zg]
theorem zwq:eQ 0=gQ false [] [1]:=by
 unfold eQ;simp[Zg,zgj]
theorem zxX(p:Int):eQ (p:Rat)=gQ (decide (p<0)) (dig p.natAbs) [1]:=by
 unfold eQ;rw[show((p:Rat)).num=p from rfl,show((p:Rat)).den=1 from rfl,zgj]
theorem zny(n:Int){d:Nat}(hd:d≠0):(mkRat n d).num=(if n<0 then -((n.natAbs/Int.gcd n d:Nat):Int)else((n.natAbs/Int.gcd n d:Nat):Int))/\(mkRat n d).den=d/Int.gcd n d:=by
 have hg:Int.gcd n d=d.gcd n.natAbs:=by unfold Int.gcd;rw[wbe,wcm]
 rw[Rat.num_mkRat,Rat.den_mkRat,Qb hd,Qb hd,hg];refine⟨?_,rfl⟩;obtain⟨k,hk⟩:=Nat.gcd_dvd_right d n.natAbs;have JX:0<d.gcd n.natAbs:=Nat.gcd_pos_of_pos_left _ (by omega);generalize d.gcd n.natAbs=g at *
 rw[hk,Nat.mul_div_cancel_left _ JX];by_cases hn:n<0
 .rw[Qc hn,show n=(g:Int) * -(k:Int) by rw[wb5,<-wbo,<-hk];omega,wes _ (by omega)]
 .rw[Qb hn,show n=(g:Int)*(k:Int) by rw[<-wbo,<-hk];omega,wes _ (by omega)]
def lQ(x:Rat):Nat:=max (lN x.num) (lN (x.den:Int))
theorem zbx(n:Nat):lN (n:Int)=(dig n).length:=rfl
theorem zaF(x:Rat):lN x.num<=lQ x:=wbT ..
theorem zbm(x:Rat):lN (x.den:Int)<=lQ x:=wbO ..
theorem zxv(x:Rat):1<=lQ x:=by
 have h:=zbm x;rw[zbx]at h;have:(dig x.den).length≠0:=fun e=>x.den_nz (Yc.1 (wbd.1 e))
 omega
theorem zgH{x:Rat}{n:Nat}(h1:lN x.num<=n)(h2:lN (x.den:Int)<=n):lQ x<=n:=Nat.max_le.2 ⟨h1,h2⟩
theorem zjP(n:Int){d:Nat}(hd:d≠0):lQ (mkRat n d)<=max (lN n) (lN (d:Int)):=by
 obtain⟨h1,h2⟩:=zny n hd;refine zgH (Qo (zeI (y:=n) ?_) (wbT ..)) (Qo (zeI (y:=(d:Int)) ?_) (wbO ..))
 .rw[h1]
  have:=wb3 n.natAbs (Int.gcd n d);generalize n.natAbs/Int.gcd n d=k at *
  split
  .rw[wbU,wbe];exact this
  .rw[wbe];exact this
 .rw[h2]
  have:=wb3 d (Int.gcd n d);omega
theorem zxw(x y:Rat):lQ (x+y)<=lQ x+lQ y+1:=by
 rw[Rat.add_def'];refine Qo (zjP _ (wc9 x.den_nz y.den_nz)) ?_;have h1:=za8 (x.num*y.den) (y.num*x.den);have h2:=ZS x.num y.den;have h3:=ZS y.num x.den;have h4:=ZS x.den y.den;have a1:=zaF x;have a2:=zaF y;have a3:=zbm x;have a4:=zbm y;rw[wbo];omega
theorem zfm(x:Rat):lQ (-x)=lQ x:=by
 unfold lQ;rw[Rat.neg_num,Rat.neg_den,Zw]
theorem zxx(x y:Rat):lQ (x-y)<=lQ x+lQ y+1:=by
 rw[Rat.sub_eq_add_neg];have:=zxw x (-y);rwa[zfm]at this
theorem zfn(x y:Rat):lQ (x*y)<=lQ x+lQ y:=by
 rw[Rat.mul_def'];refine Qo (zjP _ (wc9 x.den_nz y.den_nz)) ?_;have h2:=ZS x.num y.num;have h4:=ZS x.den y.den;have a1:=zaF x;have a2:=zaF y;have a3:=zbm x;have a4:=zbm y;rw[wbo];omega
theorem zfo(p:Int):lQ (p:Rat)<=max (lN p) 1:=by
 refine zgH ?_ ?_
 .rw[Rat.num_intCast];omega
 .rw[Rat.den_intCast,zbx,zgj];exact wbO ..
theorem zjc:lQ 0<=1:=by have:=zfo 0;rw[ZG]at this;exact this
theorem zqg:lQ 1<=1:=by
 have h:=zfo 1;have h2:=zcP;exact Qo h (by omega)
theorem zjy(x:Rat):lQ x⁻¹<=lQ x:=by
 refine zgH ?_ ?_
 .rw[Rat.num_inv]
  refine Qo (zeI (y:=(x.den:Int)) ?_) (zbm x);rw[wa9];rcases zhX x.num with⟨_,h⟩|⟨_,h⟩|⟨_,h⟩<;>rw[h]<;>simp
 .rw[Rat.den_inv]
  split
  .rw[zbx,zgj];exact zxv x
  .rw[zhy];exact zaF x
theorem zmi(s:Bool)(a d:List Nat):lQ (qv s a d)<=max (max a.length d.length) 1:=by
 by_cases h:IsQ s a d
 .obtain⟨h1,h2⟩:=h.parts
  refine zgH ?_ ?_
  .rw[h1];have:=zav s a;omega
  .rw[h2,zbx,h.2.1.trimZ];omega
 .unfold qv;rw[Qb h];have:=zjc;omega
theorem zkw(p q:Int):lQ (Rat.divInt p q)<=max (max (lN p) (lN q)) 1:=by
 by_cases hq:q=0
 .subst hq;rw[Rat.divInt_zero];have:=zjc;omega
 .have hn:q.natAbs≠0:=by omega
  by_cases h:q<0
  .rw[<-Rat.neg_divInt_neg,show -q=((q.natAbs:Nat):Int) by omega,wda]
   have:=zjP (-p) hn;rw[Zw,zhy]at this;omega
  .obtain⟨m,rfl⟩:∃ m:Nat,q=m:=⟨q.natAbs,by omega⟩
   rw[wda];have:=zjP p (d:=m) (by omega);omega
theorem znZ(x:Rat):lN x.floor<=lN x.num+1:=by
 rw[Rat.floor_def,<-wcz _ (by omega)];exact zas _ _
theorem zst(x:Rat):x.floor=Int.fdiv x.num x.den:=by
 rw[Rat.floor_def,<-wcz _ (by omega)]
theorem zub(n:Int){d:Nat}(hd:d≠0):eQ (mkRat n d)=gQ (decide (n<0)) (dig (n.natAbs/Int.gcd n d)) (dig (d/Int.gcd n d)):=by
 obtain⟨h1,h2⟩:=zny n hd;have hg:Int.gcd n d≠0:=fun e=>hd (by have:=(Int.gcd_eq_zero_iff.1 e).2;omega)
 have hk:n≠0->0<n.natAbs/Int.gcd n d:=fun hn=>Nat.div_pos (Nat.le_of_dvd (by omega) (by have:=Int.natAbs_dvd_natAbs.2 (wdP n d);rwa[wbe]at this)) (by omega)
 unfold eQ;rw[h1,h2];generalize n.natAbs/Int.gcd n d=k at *
 congr 2;all_goals(by_cases h:n<0)
 .have:=hk (by omega);rw[Qc h];simp[h];omega
 .rw[Qb h];simp[h]
 .rw[Qc h];simp
 .rw[Qb h];simp
theorem zil{x:Rat}(h:x.den=1):x=(x.num:Rat):=Rat.ext rfl h
theorem zmR{n:Nat}:dig n=[1]↔n=1:=by
 refine⟨fun h=>?_,fun h=>by rw[h,zgj]⟩;have:=congrArg val h;rw[zaX]at this;rw[this];simp[val]
theorem Zv{H:QE}{a b c:C}{x y z:T}(h1:FzC H a x)(h2:FzC H b y)(h3:FzC H c z):FzA H (.agg [a,b,c]) (.agg [x,y,z]):=.agg rfl fun j h h'=>by
 match j,h,h' with
 |0,_,_=>exact h1
 |1,_,_=>exact h2
 |2,_,_=>exact h3
 |j+3,h,_=>simp at h;omega
theorem zzi(s:Bool)(a d:List Nat):Q7 prog 138 [gQ s a d] (tB (decide (d=[1]))):=by
 refine QH QB call138 func138 rfl ntmps138 results138 (by simp) (by decide) ?_
 match d with
 |[]=>simp only[go_sem]<;>decide
 |[x] =>
  have Y5:QP Zr [x] 0=[.lit (.int .u32 (x:Int))]:=rfl;simp only[go_sem,Y5];simp;omega
 |x::y::l =>
  have h1:((l.length:Int)+1+1=1)=False:=Ql (by omega);simp only[go_sem,h1];simp
theorem zzj(s:Bool)(a d:List Nat):Q7 prog 105 [gQ s a d] (gQ s a d):=by
 refine QH QB call105 func105 rfl ntmps105 results105 (by simp) (by decide) ?_;simp only[go_sem];exact Zv .t .t .t
theorem zw4(s:Bool)(a d:List Nat):Q7 prog 150 [gQ s a d] (gI false d):=by
 refine QH QB call150 func150 rfl ntmps150 results150 (by simp) (by decide) ?_;simp only[go_sem];exact Zc .t .t
theorem zyq(s:Bool)(a d:List Nat)(ha:a.length<1000000000000):Q7 prog 104 [gQ s a d] (tI .i64 (iv s a).sign):=by
 refine QH QB call104 func104 rfl ntmps104 results104 (by simp) (by decide) ?_;simp only[go_sem];refine Q2 (zfp s a (by omega)) rfl ?_;simp only[go_sem]
theorem zoT(s:Bool)(a:List Nat):Q7 prog 146 [gI s a] (gQ s a [1]):=by
 refine QH QB call146 func146 rfl ntmps146 results146 (by simp) (by decide) ?_;simp only[go_sem];exact Zv .t .t .weak
theorem zhu(x:Rat):Q7 prog 138 [eQ x] (tB (decide (x.den=1))):=by
 have:=zzi (decide (x.num<0)) (dig x.num.natAbs) (dig x.den)
 rwa[waG.2 zmR]at this
theorem ze9(x:Rat)(ha:lQ x<1000000000000):Q7 prog 104 [eQ x] (tI .i64 x.num.sign):=by
 have:=zyq (decide (x.num<0)) (dig x.num.natAbs) (dig x.den) (by have:=zaF x;unfold lN at this;omega)
 rwa[Zn]at this
theorem zkN(x:Rat):Q7 prog 150 [eQ x] (eI (x.den:Int)):=by
 have:=zw4 (decide (x.num<0)) (dig x.num.natAbs) (dig x.den)
 rwa[show gI false (dig x.den)=eI (x.den:Int) by unfold eI;rw[wan (by omega)];rfl]at this
theorem zks(p:Int):Q7 prog 146 [eI p] (eQ (p:Rat)):=by
 have:=zoT (decide (p<0)) (dig p.natAbs)
 rwa[<-zxX]at this
abbrev gI0:TV:=.agg [.lit (.bool false),.seq (some true) []]
theorem zkt:Q7 prog 146 [gI0] (eQ 0):=by
 have:=zoT false [];rw[<-zwq]at this;exact this.fz (.cons (Zc .t .weak) .nil)
theorem zhv(s:Bool)(a:List Nat)(ha:a.length<1000000000000):Q7 prog 81 [gI s a,gI0] (eI (iv s a)):=by
 have JY:=zjY s a false [] (by omega) (by simp);rw[show iv false []=0 by decide,wa7]at JY;exact JY.fz (.cons (Zc .t .t) (.cons (Zc .t .weak) .nil))
theorem zmx(s:Bool)(a:List Nat)(ha:a.length<1000000000000):Q7 prog 102 [gI s a] (eQ ((iv s a:Int):Rat)):=by
 refine QH QB call102 func102 rfl ntmps102 results102 (by simp) (by decide) ?_;simp only[go_sem];refine Q2 (zhv s a ha) rfl ?_;simp only[go_sem];refine Q2 (zks _) rfl ?_;simp only[go_sem];exact Zv .t .t .t
theorem zjt(n:Int)(d:Nat)(hd:d≠0)(hn:lN n<10000000000)(Vd:lN (d:Int)<10000000000):Q7 prog 148 [eI n,tN (dig d)] (eQ (mkRat n d)):=by
 rw[zub n hd];refine QH QB call148 func148 rfl ntmps148 results148 (by simp) (by decide) ?_;have JH:=g_Of (decide (n<0)) (dig n.natAbs) false (dig d) (by unfold lN at hn;omega) (by rw[zbx]at Vd;omega);rw[Zn,show iv false (dig d)=(d:Int) by have:=Zn (d:Int);rwa[wan (by omega)]at this]at JH;have De:=zjN n d;have e0:∀ m:Nat,eI (m:Int)=gI false (dig m):=fun m=>by unfold eI;rw[wan (by omega)];rfl
 rw[e0]at JH;have Ui:=ziJ (dig n.natAbs) (dig (Int.gcd n d)) (by unfold lN at hn;omega) (by rw[zbx]at De;omega);have VY:=ziJ (dig d) (dig (Int.gcd n d)) (by rw[zbx]at Vd;omega) (by rw[zbx]at De;omega);rw[Zk,Zk]at Ui VY;simp only[go_sem];refine Q2 JH rfl ?_;by_cases h1:Int.gcd n d=1
 .have Y5:QP Zr [1] 0=[.lit (.int .u32 1)]:=rfl
  rw[h1,Nat.div_one,Nat.div_one,zgj];simp only[go_sem,Y5];exact Zv .t .t .t
 .have hne:dig (Int.gcd n d)≠[1]:=fun e=>h1 (zmR.1 e)
  generalize Int.gcd n d=g at *
  generalize hk:dig g=k at *
  match k with
  |[] =>
   simp only[go_sem]
   (repeat(first|(refine Q3 0 rfl ?_;simp only[go_sem])|(refine Q2 (Ui) rfl ?_;simp only[go_sem])|(refine Q2 (VY) rfl ?_;simp only[go_sem])))
   exact Zv .t .t .t
  |[x] =>
   have hx:((x:Int)=1)=False:=Ql (by simp at hne;omega);have Y5:QP Zr [x] 0=[.lit (.int .u32 (x:Int))]:=rfl;simp only[go_sem,Y5,hx]
   (repeat(first|(refine Q3 0 rfl ?_;simp only[go_sem,Y5,hx])|(refine Q2 (Ui) rfl ?_;simp only[go_sem])|(refine Q2 (VY) rfl ?_;simp only[go_sem])))
   exact Zv .t .t .t
  |x::y::l =>
   have hx:((l.length:Int)+1+1=1)=False:=Ql (by omega);simp only[go_sem,hx]
   (repeat(first|(refine Q3 0 rfl ?_;simp only[go_sem,hx])|(refine Q2 (Ui) rfl ?_;simp only[go_sem])|(refine Q2 (VY) rfl ?_;simp only[go_sem])))
   exact Zv .t .t .t
theorem zt2(x y:Rat):mkRat (x.num*y.den+y.num*x.den) (x.den*y.den)=x+y:=(Rat.add_def' x y).symm
theorem zgE(x y:Rat)(hx:lQ x<4000000000)(hy:lQ y<4000000000):Q7 prog 110 [eQ x,eQ y] (eQ (x+y)):=by
 refine QH QB call110 func110 rfl ntmps110 results110 (by simp) (by decide) ?_;have nx:=zaF x;have ny:=zaF y;have dx:=zbm x;have dy:=zbm y;simp only[go_sem];refine Q2 (zhu x) rfl ?_;have Js:Q7 prog 148 [eI (x.num*y.den+y.num*x.den),tN (dig (x.den*y.den))] (eQ (x+y)):=by
  have z1:=ZS x.num y.den;have z2:=ZS y.num x.den;have z3:=ZS x.den y.den;have z4:=za8 (x.num*y.den) (y.num*x.den);rw[<-zt2];exact zjt _ _ (wc9 x.den_nz y.den_nz) (by omega) (by rw[wbo];omega)
 have m1:=zdM x.num y.den (by omega) (by omega);have m2:=zdM y.num x.den (by omega) (by omega);have m3:=zdf (x.num*y.den) (y.num*x.den) (by have:=ZS x.num y.den;omega) (by have:=ZS y.num x.den;omega);have m4:=ziw (dig x.den) (dig y.den) (by rw[zbx]at dx;omega) (by rw[zbx]at dy;omega);rw[Zk,Zk]at m4;have b1:=zkN x;have b2:=zkN y;by_cases h1:x.den=1
 .have e1:(x.den=1)=True:=Qh h1
  simp only[go_sem,e1];refine Q2 (zhu y) rfl ?_;by_cases h2:y.den=1
  .have ad:=zdf x.num y.num (by omega) (by omega)
   have wh:=zks (x.num+y.num);rw[show((x.num+y.num:Int):Rat)=x+y by rw[wcy,<-zil h1,<-zil h2]]at wh;have e2:(y.den=1)=True:=Qh h2;simp only[go_sem,e2];refine Q2 ad rfl ?_;simp only[go_sem];refine Q2 wh rfl ?_;simp only[go_sem];exact Zv .t .t .t
  .simp only[go_sem,h2]
   (repeat(first|(refine Q3 0 rfl ?_;simp only[go_sem])|(refine Q2 (b1) rfl ?_;simp only[go_sem])|(refine Q2 (b2) rfl ?_;simp only[go_sem])|(refine Q2 (m1) rfl ?_;simp only[go_sem])|(refine Q2 (m2) rfl ?_;simp only[go_sem])|(refine Q2 (m3) rfl ?_;simp only[go_sem])|(refine Q2 (m4) rfl ?_;simp only[go_sem])|(refine Q2 (Js) rfl ?_;simp only[go_sem])))
   exact Zv .t .t .t
 .simp only[go_sem,h1]
  (repeat(first|(refine Q3 0 rfl ?_;simp only[go_sem])|(refine Q2 (b1) rfl ?_;simp only[go_sem])|(refine Q2 (b2) rfl ?_;simp only[go_sem])|(refine Q2 (m1) rfl ?_;simp only[go_sem])|(refine Q2 (m2) rfl ?_;simp only[go_sem])|(refine Q2 (m3) rfl ?_;simp only[go_sem])|(refine Q2 (m4) rfl ?_;simp only[go_sem])|(refine Q2 (Js) rfl ?_;simp only[go_sem])))
  exact Zv .t .t .t
theorem zhw(x:Rat)(hx:lQ x<4000000000):Q7 prog 107 [eQ x] (eQ (-x)):=by
 refine QH QB call107 func107 rfl ntmps107 results107 (by simp) (by decide) ?_;have nx:=zaF x;have hn:=zbN x.num (by omega);simp only[go_sem];refine Q3 0 rfl ?_;simp only[go_sem];refine Q2 hn rfl ?_;simp only[go_sem];exact Zv .t .t .t
theorem zgt(x y:Rat)(hx:lQ x<4000000000)(hy:lQ y<4000000000):Q7 prog 108 [eQ x,eQ y] (eQ (x*y)):=by
 refine QH QB call108 func108 rfl ntmps108 results108 (by simp) (by decide) ?_;have nx:=zaF x;have ny:=zaF y;have dx:=zbm x;have dy:=zbm y;simp only[go_sem];refine Q2 (zhu x) rfl ?_;have Js:Q7 prog 148 [eI (x.num*y.num),tN (dig (x.den*y.den))] (eQ (x*y)):=by
  have z1:=ZS x.num y.num;have z3:=ZS x.den y.den;rw[Rat.mul_def'];exact zjt _ _ (wc9 x.den_nz y.den_nz) (by omega) (by rw[wbo];omega)
 have m1:=zdM x.num y.num (by omega) (by omega);have m4:=ziw (dig x.den) (dig y.den) (by rw[zbx]at dx;omega) (by rw[zbx]at dy;omega);rw[Zk,Zk]at m4;by_cases h1:x.den=1
 .have e1:(x.den=1)=True:=Qh h1
  simp only[go_sem,e1];refine Q2 (zhu y) rfl ?_;by_cases h2:y.den=1
  .have wh:=zks (x.num*y.num)
   rw[show((x.num*y.num:Int):Rat)=x*y by rw[wb1,<-zil h1,<-zil h2]]at wh;have e2:(y.den=1)=True:=Qh h2;simp only[go_sem,e2];refine Q2 m1 rfl ?_;simp only[go_sem];refine Q2 wh rfl ?_;simp only[go_sem];exact Zv .t .t .t
  .simp only[go_sem,h2]
   (repeat(first|(refine Q3 0 rfl ?_;simp only[go_sem])|(refine Q2 (m1) rfl ?_;simp only[go_sem])|(refine Q2 (m4) rfl ?_;simp only[go_sem])|(refine Q2 (Js) rfl ?_;simp only[go_sem])))
   exact Zv .t .t .t
 .simp only[go_sem,h1]
  (repeat(first|(refine Q3 0 rfl ?_;simp only[go_sem])|(refine Q2 (m1) rfl ?_;simp only[go_sem])|(refine Q2 (m4) rfl ?_;simp only[go_sem])|(refine Q2 (Js) rfl ?_;simp only[go_sem])))
  exact Zv .t .t .t
theorem zyr{x:Rat}(h:x.num≠0):eQ x⁻¹=gQ (decide (x.num<0)) (dig x.den) (dig x.num.natAbs):=by
 unfold eQ;have hd:=x.den_nz;rw[Rat.num_inv,Rat.den_inv,Qb h,wa9,wbe];rcases zhX x.num with⟨h0,e⟩|⟨h0,e⟩|⟨h0,e⟩
 .rw[e]
  rw[waC (show(-1:Int)*(x.den:Int)<0 by omega),waC h0,show(-1:Int).natAbs*x.den=x.den by simp]
 .exact Qn h0 h
 .rw[e]
  rw[wan (show ¬(1:Int)*(x.den:Int)<0 by omega),wan (show ¬x.num<0 by omega),show(1:Int).natAbs*x.den=x.den by simp]
theorem zl9(x:Rat)(hx:lQ x<4000000000):Q7 prog 109 [eQ x] (eQ x⁻¹):=by
 by_cases h:x.num=0
 .have hs:=ze9 x (by omega)
  rw[h,show(0:Int).sign=0 from rfl]at hs;rw[show x⁻¹=0 by rw[wdr.1 h,Rat.inv_zero]];refine QH QB call109 func109 rfl ntmps109 results109 (by simp) (by decide) ?_;simp only[go_sem];refine Q2 hs rfl ?_;simp only[go_sem];refine Q2 zkt rfl ?_;simp only[go_sem];exact Zv .t .t .t
 .have hs:=ze9 x (by omega)
  have hne:=zdO h;rw[zyr h];refine QH QB call109 func109 rfl ntmps109 results109 (by simp) (by decide) ?_;simp only[go_sem];refine Q2 hs rfl ?_;simp only[go_sem,hne];exact Zv .t .t .t
theorem zvy(x:Rat)(hx:lQ x<4000000000):Q7 prog 166 [eQ x] (eI x.floor):=by
 refine QH QB call166 func166 rfl ntmps166 results166 (by simp) (by decide) ?_;have nx:=zaF x;have dx:=zbm x;have b1:=zkN x;have fl:=zej x.num x.den (by omega) (by omega);rw[<-zst]at fl;simp only[go_sem]
 (repeat(first|(refine Q3 0 rfl ?_;simp only[go_sem])|(refine Q2 (b1) rfl ?_;simp only[go_sem])|(refine Q2 (fl) rfl ?_;simp only[go_sem])))
 exact Zc .t .t
theorem q_Is(s:Bool)(a d:List Nat)(ha:a.length<4000000000)(hd:d.length<4000000000):Q7 prog 164 [gQ s a d] (tB (decide (IsQ s a d))):=by
 refine QH QB call164 func164 rfl ntmps164 results164 (by simp) (by decide) ?_;have i1:=zj7 s a (by omega);have i2:=zk9 d (by omega);simp only[go_sem];refine Q2 i1 rfl ?_;by_cases hI:IsI s a
 .simp only[go_sem,hI]
  refine Q2 i2 rfl ?_;by_cases hN:IsN d
  .have e:((d.length:Int)=0)=(d=[]):=by rw[eq_iff_iff];cases d<;>simp;omega
   simp only[go_sem,hN,e];by_cases h0:d=[]
   .have e0:(d=[])=True:=Qh h0
    simp only[go_sem,e0];simp[IsQ,h0]
   .have hg:=g_Of s a false d (by omega) (by omega)
    have hv:iv false d=(val d:Int):=by unfold iv;rw[Qc ⟨hN,.inr rfl⟩];simp
    rw[hv]at hg;have De:=zjN (iv s a) (val d);have VZ:=zav s a;have UH:lN (val d:Int)=d.length:=by rw[zbx,hN.trimZ]
    have ho:=zbP 1 (by omega) (by omega);have hs:=ziV (Int.gcd (iv s a) (val d)) 1 (by omega) (by have:=zcP;omega);have ef:decide (IsQ s a d)=decide ((Int.gcd (iv s a) (val d):Int)=1):=by
     rw[waG];unfold IsQ;exact⟨fun h=>by rw[h.2.2.2];rfl,fun h=>⟨hI,hN,h0,by omega⟩⟩
    rw[ef];simp only[go_sem,h0]
    (repeat(first|(refine Q3 0 rfl ?_;simp only[go_sem])|(refine Q2 (hg) rfl ?_;simp only[go_sem])|(refine Q2 (ho) rfl ?_;simp only[go_sem])|(refine Q2 (hs) rfl ?_;simp only[go_sem])))
  .simp only[go_sem,hN]
   simp[IsQ,hN]
 .simp only[go_sem,hI]
  simp[IsQ,hI]
theorem zma(s:Bool)(a d:List Nat)(ha:a.length<4000000000)(hd:d.length<4000000000):Q7 prog 137 [gQ s a d] (eQ (qv s a d)):=by
 refine QH QB call137 func137 rfl ntmps137 results137 (by simp) (by decide) ?_;have i1:=q_Is s a d ha hd;simp only[go_sem];refine Q2 i1 rfl ?_;by_cases h:IsQ s a d
 .rw[<-zyV h]
  simp only[go_sem,h];exact Zv .t .t .t
 .rw[show qv s a d=0 from Qb h]
  simp only[go_sem,h];refine Q2 zkt rfl ?_;simp only[go_sem];exact Zv .t .t .t
theorem zuZ(x:Rat)(hx:lQ x<4000000000):Q7 prog 137 [eQ x] (eQ x):=by
 have nx:=zaF x;have dx:=zbm x;have:=zma (decide (x.num<0)) (dig x.num.natAbs) (dig x.den) (by unfold lN at nx;omega) (by rw[zbx]at dx;omega)
 rwa[zrf]at this
theorem zjj(x:Rat):Q7 prog 105 [eQ x] (eQ x):=zzj _ _ _
theorem q_Of(s:Bool)(a:List Nat)(t:Bool)(b:List Nat)(ha:a.length<4000000000)(hb:b.length<4000000000):Q7 prog 133 [gI s a,gI t b] (eQ (Rat.divInt (iv s a) (iv t b))):=by
 refine QH QB call133 func133 rfl ntmps133 results133 (by simp) (by decide) ?_;have hs:=zfp t b (by omega);have hA:=zmo t b (by omega);have hN:=zrl s a (by omega);have h0:=zhv s a (by omega);have l1:=zav s a;have l2:=zav t b;generalize iv s a=p at *
 generalize iv t b=q at *
 simp only[go_sem];refine Q2 hs rfl ?_;have e0:∀ m:Nat,eI (m:Int)=gI false (dig m):=fun m=>by unfold eI;rw[wan (by omega)];rfl
 rw[e0]at hA;by_cases hq:q=0
 .have e:(0:Int).sign=0:=rfl
  subst hq;rw[Rat.divInt_zero];have r0:=zjj 0;simp only[go_sem,e]
  (repeat(first|(refine Q3 0 rfl ?_;simp only[go_sem])|(refine Q2 (zkt) rfl ?_;simp only[go_sem])|(refine Q2 (r0) rfl ?_;simp only[go_sem])))
  exact Zv .t .t .t
 .have hne:=zdO hq
  have Do:q.natAbs≠0:=by omega
  have r0:=zjj (Rat.divInt p q);simp only[go_sem,hne];refine Q2 hs rfl ?_;by_cases hn:q<0
  .have Uk:q.sign = -1:=wcq hn
   have h3:=zhv (decide (-p<0)) (dig (-p).natAbs) (by have:=Zw p;unfold lN at this l1;omega);rw[Zn]at h3;have sh:=zjt (-p) q.natAbs Do (by rw[Zw];omega) (by rw[zhy];omega);rw[<-wda,show((q.natAbs:Nat):Int) = -q by omega,Rat.neg_divInt_neg]at sh;simp only[go_sem,Uk];refine Q2 hN rfl ?_;simp only[go_sem]
   (repeat(first|(refine Q3 0 rfl ?_;simp only[go_sem])|(refine Q2 (h3) rfl ?_;simp only[go_sem])|(refine Q2 (hA) rfl ?_;simp only[go_sem])|(refine Q2 (sh) rfl ?_;simp only[go_sem])|(refine Q2 (r0) rfl ?_;simp only[go_sem])))
   exact Zv .t .t .t
  .have Uk:q.sign=1:=wbQ (by omega)
   have sh:=zjt p q.natAbs Do (by omega) (by rw[zhy];omega);rw[<-wda,show((q.natAbs:Nat):Int)=q by omega]at sh;simp only[go_sem,Uk]
   (repeat(first|(refine Q3 0 rfl ?_;simp only[go_sem])|(refine Q2 (h0) rfl ?_;simp only[go_sem])|(refine Q2 (hA) rfl ?_;simp only[go_sem])|(refine Q2 (sh) rfl ?_;simp only[go_sem])|(refine Q2 (r0) rfl ?_;simp only[go_sem])))
   exact Zv .t .t .t
theorem zqx(p q:Int)(ha:lN p<4000000000)(hb:lN q<4000000000):Q7 prog 133 [eI p,eI q] (eQ (Rat.divInt p q)):=by
 have:=q_Of (decide (p<0)) (dig p.natAbs) (decide (q<0)) (dig q.natAbs) ha hb;rwa[Zn,Zn]at this
theorem zwD(s:Bool)(a d:List Nat)(ha:a.length<1900000000)(hd:d.length<1900000000):Q7 prog 141 [gQ s a d] (eI ((qv s a d)).floor):=by
 refine QH QB call141 func141 rfl ntmps141 results141 (by simp) (by decide) ?_;have hx:=zma s a d (by omega) (by omega);have lx:=zmi s a d;generalize qv s a d=x at *
 have hf:=zvy x (by omega);simp only[go_sem]
 (repeat(first|(refine Q3 0 rfl ?_;simp only[go_sem])|(refine Q2 (hx) rfl ?_;simp only[go_sem])|(refine Q2 (hf) rfl ?_;simp only[go_sem])))
 exact Zc .t .t
theorem zwE(s:Bool)(a d:List Nat)(ha:a.length<1900000000)(hd:d.length<1900000000):Q7 prog 91 [gQ s a d] (tB (decide (((qv s a d)).den=1))):=by
 refine QH QB call91 func91 rfl ntmps91 results91 (by simp) (by decide) ?_;have hx:=zma s a d (by omega) (by omega);have lx:=zmi s a d;generalize qv s a d=x at *
 have ho:=zhu x;simp only[go_sem]
 (repeat(first|(refine Q3 0 rfl ?_;simp only[go_sem])|(refine Q2 (hx) rfl ?_;simp only[go_sem])|(refine Q2 (ho) rfl ?_;simp only[go_sem])))
end Go.Proofs.YtlgjjcmljmjenaaGreat
