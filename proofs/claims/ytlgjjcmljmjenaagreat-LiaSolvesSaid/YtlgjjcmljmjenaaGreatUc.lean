/- At every input the call answers true and leaves its arguments as they were; no conditions. -/
import Derived.Test.YtlgjjcmljmjenaaGreatUb
import Derived.Test.YtlgjjcmljmjenaaGreatNa
import Derived.Test.YtlgjjcmljmjenaaGreatAj
import Derived.Test.YtlgjjcmljmjenaaGreatNb
set_option linter.unusedSimpArgs false
set_option linter.unusedVariables false
set_option maxRecDepth 100000
set_option maxHeartbeats 64000000
namespace Go.Proofs.YtlgjjcmljmjenaaGreat
open Go Go.Abs Go.Proofs.Tryz
theorem zx9{H:QD}{b:Nat}{M:MX}(hf:∀ i,i<M.N->H (b+100+i)=some (Q5 cJ (fnG M.n (M.g i))))(h0:H b=some [.vec (b+1) 1 0 M.R,.vec (b+2) 1 0 M.n,.vec (b+3) 1 0 M.n])
  (h1:H (b+1)=some (rowsC (b+100) 2 M.n M.R)) (h2:H (b+2)=some (rowsC (b+100+M.R) 2 M.n M.n)) (h3:H (b+3)=some (ZS (b+100+M.R+M.n) 2 M.n M.s M.n)):AtM H b M:=fun k cs h=>by
 rw[zci]at h;split at h
 .rename_i c
  have:=hf (k-100) (by omega);rw[show b+100+(k-100)=b+k by omega]at this;rw[this];exact h
 .split at h
  .rename_i e;subst e;rw[<-h];exact h0
  .split at h
   .rename_i e;subst e;rw[<-h];exact h1
   .split at h
    .rename_i e;subst e;rw[<-h];exact h2
    .split at h
     .rename_i e;subst e;rw[<-h];exact h3
     .cases h
theorem zg6{α:Type}{f:α->List T}{xs:List α}{b sz len:Nat}{x:T}:(Q5 f xs).map (fC b sz len x)=Q5 f xs:=by unfold Q5;rw[wac];rfl
theorem zka{R n:Nat}{g g':Nat->Nat->Int}(h:∀ i j,i<R->j<n->g i j=g' i j):Zw R n g=Zw R n g' :=
 Yk fun i hi=>Yk fun j hj=>by rw[h i j hi hj]
def ZV(a:Nat->Nat->Int)(n R i:Nat):MX:=⟨n,R,fun q=>if q<R then(if q<i then a q else fun _=>0)else if q<R+n then dlt (q-R)else dlt (q-R-n),fun i=>i⟩
theorem zps{a:Nat->Nat->Int}{n R i:Nat}:(ZV a n R i).Ok:=fun _ h=>h
theorem zuR{a:Nat->Nat->Int}{n R:Nat}:Rep (ZV a n R R) (zl1 a n R) where
 en:=rfl
 eR:=rfl
 h:=fun r c h1 h2=>by
  have h1:r<R:=h1;show(if r<R then(if r<R then a r else fun _=>0)else _) c=a r c;rw[Qc h1,Qc h1]
 u:=fun r c h1 h2=>by
  have h1:r<n:=h1;show(if R+r<R then _ else if R+r<R+n then dlt (R+r-R)else _) c=zaS r c;rw[Qb (by omega),Qc (by omega),show R+r-R=r by omega];rfl
 v:=fun r c h1 h2=>by
  have h1:r<n:=h1;show(if R+n+r<R then _ else if R+n+r<R+n then _ else dlt (R+n+r-R-n)) c=zaS r c;rw[Qb (by omega),Qb (by omega),show R+n+r-R-n=r by omega];rfl
 ok:=zps
 inj:=fun i j _ _ h=>h
def zbr(a:Nat->Nat->Int)(n R:Nat):Nat->MX
 |0=>ZV a n R R
 |r+1=>zcY (itM (zbr a n R r) r (QF a n R r).2 (fuE (QF a n R r).1 r (QF a n R r).2)) r (QF a n R r).2
theorem zod{a:Nat->Nat->Int}{n R:Nat}:∀ r,r<=R->Rep (zbr a n R r) (QF a n R r).1
 |0,_=>zuR
 |r+1,h=>by
  have ih:=zod (a:=a) (n:=n) (R:=R) r (by omega);have hd:=zc4 (a:=a) (n:=n) (R:=R) r;have hk:=ze4 (a:=a) (n:=n) (R:=R) r;have hn:=ih.en;have hR:=ih.eR;obtain⟨h1,h2,h3⟩:=zlV (r:=r) (k:=(QF a n R r).2) ih (by omega) (by omega) (fuE (QF a n R r).1 r (QF a n R r).2);exact(zpW (r:=r) (k:=(QF a n R r).2) h1 (by omega) (by omega)).1
def zfl(K:Nat)(a:Nat->Nat->Int)(n R:Nat):Prop:=∀ r,r<R->LBrow K (QF a n R r).1 r (QF a n R r).2 (fuE (QF a n R r).1 r (QF a n R r).2)
def zeO(S:HX):List (Nat×List C):=[(900000,[.t (eW (Zw S.R S.n S.h)),.t (eW (Zw S.n S.n S.u)),.t (eW (Zw S.n S.n S.v))])]
def Yn(v:Int):List T:=[.lit (.int .i64 v)]
theorem zkL(v:Int):(Yn v).length=1:=rfl
attribute [go_sem] Yn
theorem zI1(k:Nat):Zg k [C.t (.lit (.int .i64 0))]=Q5 Yn (fnG k fun _=>0):=by
 have e:fnG k (fun _=>(0:Int))=List.replicate k 0:=by unfold fnG;rw[wdt];simp
 rw[e];unfold Zg
 induction k with
 |zero=>rfl
 |succ k ih =>
  have e:fnG k (fun _=>(0:Int))=List.replicate k 0:=by unfold fnG;rw[wdt];simp
  rw[wbp,wbp,wbx,zcq,ih e];rfl
theorem zqB{n:Nat}{g:Nat->Int}{i:Nat}(hi:i<n){y:Int}:(Q5 Yn (fnG n g)).take i++C.t (.lit (.int .i64 y))::(Q5 Yn (fnG n g)).drop (i+1)=Q5 Yn (fnG n (fun v=>if v=i then y else g v)):=by
 have:=zgl (f:=Yn) (sz:=1) zkL hi (g:=g) (y:=y);rw[wah]at this;rw[<-this];simp[Yh,Yn]
theorem zuS{n:Nat}{g:Nat->Int}:(Q5 Yn (fnG n g)).length=n:=by rw[zbm zkL,wah]
theorem zya{b t:Nat}{M:MX}(h:t<b):QB (mkL b M) t=none:=zbg fun hm=>by have:=zfj hm;omega
theorem zyb(a:List (List RI))(n:Nat){K L:Nat}(hK:K<=4000000000)(hL:L<=10000000000)(hn:n<=40)(hR:a.length<40000)(ha:∀ row∈a,LR L row)(hb:zfl K (atW a) n a.length) :
  zbX prog 127 [.one (eW a),tI .i64 n] (QB (zeO (QF (atW a) n a.length a.length).1)) (.tup [.one (.ptr 900000 0),.one (.t (eL Yn (fnG a.length (pvS (atW a) n a.length))))]):=by
 obtain⟨R,KO⟩:∃ R,R=a.length:=⟨_,rfl⟩
 refine zmA QC call127 func127 rfl ntmps127 results127 (by simp) (by decide) ?_ ?_ ?_
 .refine zb9 ?_
  simp[zeO,QT,Z9]
 .refine⟨?_,trivial,trivial⟩
  show QB _ 900000≠none;simp[zeO,QB]
 .have gr:=zqA R n (by omega)
  have un:=zx7 n (by omega);have SB:(eW a)=eL cMw a:=rfl;rw[<-KO]at hb ⊢;have OI:(if(0:Int)>(n:Int)then(0:Int)else(n:Int))=(n:Int):=Qb (by omega);have FK:(if(40:Int)<(n:Int)then(40:Int)else(n:Int))=(n:Int):=by(split<;>omega)
  simp only[go_sem];refine zdK rfl (by simp only[go_sem]<;>rfl) (by simp only[go_sem]<;>rfl) (Qd _) ?_;simp only[go_sem,OI];skip;try simp only[go_sem,FK]
  rw[<-KO];have er:∀ q,fnG n ((ZV (atW a) n R 0).g q)=fnG n (if q<R then(fun _=>0)else if q<R+n then dlt (q-R)else dlt (q-R-n)):=fun q=>by
   show fnG n (if q<R then(if q<0 then atW a q else fun _=>0)else _)=_;rw[Qb (waO _)]
  refine zit (m:=2) (q:=0) (hk:=900001) (g:=fun _ _=>0) (rows:=fun q=>fnG n ((ZV (atW a) n R 0).g q)) (e:=[]) (.inr rfl) gr rfl (by omega) (by decide) rfl (fun b hb=>by cases hb) (fun i hi=>by rw[er,waY,Qc hi]) ?_;simp only[go_sem,waY,wap];refine zit (m:=2) (q:=R) (hk:=900002) (g:=dlt) (e:=[(900001,rowsC 900100 2 n R)]) (rows:=fun q=>fnG n ((ZV (atW a) n R 0).g q)) (.inr rfl) un rfl (by omega) (by decide) rfl (fun b hb=>by simp at hb;omega) (fun i hi=>by rw[er,Qb (by omega),Qc (by omega),show R+i-R=i by omega]) ?_;simp only[go_sem];refine zit (m:=2) (q:=R+n) (hk:=900003) (g:=dlt) (e:=[(900002,rowsC (900100+R) 2 n n),(900001,rowsC 900100 2 n R)]) (rows:=fun q=>fnG n ((ZV (atW a) n R 0).g q)) (.inr rfl) un rfl (by omega) (by decide) rfl (fun b hb=>by simp at hb;omega) (fun i hi=>by rw[er,Qb (by omega),Qb (by omega),show R+n+i-R-n=i by omega]) ?_;simp only[go_sem];obtain⟨A,hA⟩:∃ A,A=atW a:=⟨_,rfl⟩
  rw[<-hA]at hb ⊢;have JO:∀ i D e,QT (mkD 900000 (ZV A n R i) D) (mkE 900000 (ZV A n R i) e)=QT (mkD 900000 (ZV A n R i) D) e:=fun i D e=>zbv zps
  refine QK (fun i:Nat=>stL 75 [(0,.one (.t (eL cMw a))),(1,litI .i64 n),(6,.one (.ptr 900000 0)),(26,.one (.t (eL cMw a))),(27,litI .i64 R),(28,litI .i64 i)] (mkE 900000 (ZV A n R i) [])) (fun i=>i<=R) (fun i=>R-i) 0 ?_ (Qk _) ?_
  .refine GStep.trans (zc6 (b:=25) (b':=900000) (by simp only[go_sem]) (by decide) (by decide)) ?_
   (refine Q7 rfl ?_ ?_ ?_ ?_<;>(try simp only[go_sem,JO,<-KO])<;>(try simp only[Qy,Qv,Qu]))
   refine zx9 (fun q hq=>?_) ?_ ?_ ?_ ?_
   .have hq:q<R+n+n:=hq
    show _=some (Q5 cJ (fnG n ((ZV A n R 0).g q)));rw[show 900000+100+q=900100+q from rfl];simp only[go_sem,zeH,zhK];rw[Qc hq];show some ((Q5 cJ _).map (rnC _))=_;rw[zgY]
   .simp only[go_sem]
    rfl
   .simp only[go_sem]
    rw[zg8 fun i hi=>by show(if 900100+i=25 then _ else _)=_;rw[Qb (by omega)]];rfl
   .simp only[go_sem]
    rw[zg8 fun i hi=>by show(if 900100+R+i=25 then _ else _)=_;rw[Qb (by omega)]];rfl
   .simp only[go_sem]
    rw[zg8 fun i hi=>by show(if 900100+(R+n)+i=25 then _ else _)=_;rw[Qb (by omega)],<-wbg];rfl
  .intro i hi
   simp only[go_sem];refine QI (fun Yw=>?_) (fun YG=>?_)
   .have Yv:i<R:=by omega
    have FM:i<a.length:=by omega
    have Y1:QM cMw a i=cMw a[i]:=Q8 FM;have Na:=ha _ (Qh FM);have Vg:A i=atR a[i]:=by rw[hA];funext j;exact zl4 FM
    generalize a[i]=row at *
    simp only[go_sem,Y1,Yw,<-KO]
    (repeat(refine Qg (by omega) ?_))
    have n2:∀ j f,((ZV A n R i).rw i j f).n=n:=fun _ _=>rfl
    have R2:∀ j f,((ZV A n R i).rw i j f).R=R:=fun _ _=>rfl
    have Wu:∀ j f D e,QT (mkD 900000 ((ZV A n R i).rw i j f) D) (mkE 900000 ((ZV A n R i).rw i j f) e)=QT (mkD 900000 ((ZV A n R i).rw i j f) D) e:=fun j f D e=>zbv (M:=(ZV A n R i).rw i j f) (fun _ h=>h)
    refine QK (fun j:Nat=>stL 75 [(0,.one (.t (eL cMw a))),(1,litI .i64 n),(6,.one (.ptr 900000 0)),(26,.one (.t (eL cMw a))),(27,litI .i64 R),(28,litI .i64 i),(7,litI .i64 i),(8,.one (.t (eL cI row))),(33,litI .i64 n),(34,litI .i64 j)] (mkE 900000 ((ZV A n R i).rw i j (A i)) [])) (fun j=>j<=n) (fun j=>n-j) 0 ?_ (Qk _) ?_
    .rw[zlB]
     (refine Q7 rfl ?_ ?_ ?_ ?_<;>(try simp only[go_sem,JO])<;>(try simp only[Qy,Qv,Qu]))
    .intro j hj
     simp only[go_sem];refine QI (fun VH=>?_) (fun L4=>?_)
     .have XL:j<n:=by omega
      have o1:=zp3 row j hL Na (by omega);have a3:(rowsC 900100 2 n R).drop i = .vec (900100+i) 2 0 n::(rowsC 900100 2 n R).drop (i+1):=zcw Yv;have YT:=zbj (b:=900100) (sz:=2) (len:=n) (n:=R);have cl:=fun g=>zaB (n:=n) (g:=g)
      have JM:(ZV A n R i).g i=fun _=>0:=by
       show(if i<R then(if i<i then A i else fun _=>0)else _)=_;rw[Qc Yv,Qb (wa8 _)]
      have Wc:((ZV A n R i).rw i j (A i)).g i=fun c=>if c<j then A i c else 0:=by
       show(if i=i then fun c=>if c<j then A i c else(ZV A n R i).g i c else(ZV A n R i).g i)=_;rw[Qc rfl,JM]
      have kf:∀ e,QB (mkE 900000 ((ZV A n R i).rw i j (A i)) e) (900100+i)=some (Q5 cJ (fnG n fun c=>if c<j then A i c else 0)):=fun e=>by
       have:=zck (b:=900000) (M:=(ZV A n R i).rw i j (A i)) (e:=e) (i:=i) (by show i<R+n+n;omega);rw[Wc]at this;exact this
      have sd:=zbD (n:=n) (g:=fun c=>if c<j then A i c else 0) XL (q:=atR row j);simp only[go_sem];refine Q4 0 rfl ?_;simp only[go_sem,n2,R2,a3,Yw,VH]
      (repeat(refine Qg (by omega) ?_))
      ((repeat(refine Q4 0 rfl ?_;simp only[go_sem,n2,R2,a3,YT,Yw,kf,cl,VH,sd]));refine Q3 (o1) rfl ?_;simp only[go_sem,kf,cl,VH,sd];(repeat(refine Q4 0 rfl ?_;simp only[go_sem,n2,R2,a3,YT,Yw,kf,cl,VH,sd])))
      (repeat(refine Qg (by omega) ?_))
      refine⟨j+1,XL,(by show n-(j+1)<n-j;omega),?_⟩
      (refine Q7 rfl ?_ ?_ ?_ ?_<;>(try simp only[go_sem,Wu,Q6 (n:=(j:Int)+1) (by omega) (by omega)])<;>(try simp only[Qy,Qv,Qu]))
      have:=zlY (b:=900000) (M:=ZV A n R i) (q:=i) (k:=j) (fv:=A i) (H:=QB (mkE 900000 ((ZV A n R i).rw i j (A i)) [])) (by rw[za1];trivial);rw[JM,show A i j=atR row j by rw[Vg]]at this;exact this
     .obtain rfl:j=n:=by omega
      simp only[go_sem];refine⟨i+1,Yv,(by show R-(i+1)<R-i;omega),?_⟩
      (refine Q7 rfl ?_ ?_ ?_ ?_<;>(try simp only[go_sem,JO,Q6 (n:=(i:Int)+1) (by omega) (by omega)])<;>(try simp only[Qy,Qv,Qu]))
      refine AtM.same (b:=900000) (M:=(ZV A j R i).rw i j (A i)) (g':=(ZV A j R (i+1)).g) (by rw[za1];trivial) fun q hq c hc=>?_
      have hc:c<j:=hc;show(if q<R then(if q<i+1 then A q else fun _=>0)else if q<R+j then dlt (q-R)else dlt (q-R-j)) c=(if q=i then fun c=>if c<j then A i c else(ZV A j R i).g q c else if q<R then(if q<i then A q else fun _=>0)else if q<R+j then dlt (q-R)else dlt (q-R-j)) c;by_cases e:q=i
      .rw[Qc e,Qc (by omega),Qc (by omega),e,Qc hc]
      .rw[Qb e]
       by_cases e2:q<R
       .rw[Qc e2,Qc e2]
        by_cases e3:q<i
        .rw[Qc e3,Qc (by omega)]
        .rw[Qb e3,Qb (by omega)]
       .rw[Qb e2,Qb e2]
   .obtain rfl:i=R:=by omega
    have E3:∀ r,r<=i->Rep (zbr A n i r) (QF A n i r).1:=fun r h=>zod r h
    have KY:∀ r,r<=i->(zbr A n i r).n=n/\(zbr A n i r).R=i:=fun r h=>by
     have h1:=E3 r h;have h2:=zc4 (a:=A) (n:=n) (R:=i) r;exact⟨h1.en.trans h2.1,h1.eR.trans h2.2⟩
    obtain⟨pv,VI⟩:∃ pv,pv=pvS A n i:=⟨_,rfl⟩
    rw[<-VI];simp only[go_sem,<-KO,Za];refine⟨by omega,?_⟩;refine QK (fun r:Nat=>stL 75 [(0,.one (.t (eL cMw a))),(6,.one (.ptr 900000 0)),(10,.one (.vec 53 1 0 i)),(11,litI .i64 (QF A n i r).2),(55,litI .i64 i),(56,litI .i64 r)] (mkE 900000 (zbr A n i r) [(53,Q5 Yn (fnG i fun q=>if q<r then pv q else 0))])) (fun r=>r<=i) (fun r=>i-r) 0 ?_ (Qk _) ?_
    .show Abs.GStep _ (stL 75 _ (mkE 900000 (ZV A n i i) _))
     (refine Q7 rfl ?_ ?_ ?_ ?_<;>(try simp only[go_sem,JO,zI1,Za,zdT,zaA,QH])<;>(try simp only[Qy,Qv,Qw,Qu,Qs,Qx]))
     .exact .inl rfl
     .have e:fnG i (fun _=>(0:Int))=fnG i (fun q=>if q<0 then pv q else 0):=Yk fun q _=>(Qb (waO _)).symm
      rw[e]
    .intro r hr
     simp only[go_sem];refine QI (fun LN=>?_) (fun SC=>?_)
     .have Kj:r<i:=by omega
      have sd1:=zqB (n:=i) (g:=fun q=>if q<r then pv q else 0) Kj (y:=-1);have cl:=fun g=>zuS (n:=i) (g:=g)
      have rp:=E3 r (by omega);obtain⟨nr,Rr⟩:=KY r (by omega);obtain⟨nr',Rr'⟩:=KY (r+1) (by omega);have rp':=E3 (r+1) Kj;have Wo:=ze4 (a:=A) (n:=n) (R:=i) r;have YE:=zyZ (zbr A n i r) (QF A n i r).1 r (QF A n i r).2 (K:=K) (T:=fuE (QF A n i r).1 r (QF A n i r).2) hK rp (by unfold MX.N;omega) (by omega) (by omega) (hb r Kj);have JP:(QF A n i (r+1)).2=if(ZO (QF A n i r).1 r (QF A n i r).2).2 then(QF A n i r).2+1 else(QF A n i r).2:=rfl
      have Nf:pv r=if(ZO (QF A n i r).1 r (QF A n i r).2).2 then((QF A n i r).2:Int)else -1:=by rw[VI];rfl
      have OJ:zcY (itM (zbr A n i r) r (QF A n i r).2 (fuE (QF A n i r).1 r (QF A n i r).2)) r (QF A n i r).2=zbr A n i (r+1):=rfl;have NY:(Yj (itE (QF A n i r).1 r (QF A n i r).2 (fuE (QF A n i r).1 r (QF A n i r).2)) r (QF A n i r).2).2=(ZO (QF A n i r).1 r (QF A n i r).2).2:=rfl;rw[OJ,NY]at YE;generalize (ZO (QF A n i r).1 r (QF A n i r).2).2=bb at YE JP Nf;simp only[go_sem,Za,cl,sd1,LN]
      (repeat(refine Qg (by omega) ?_))
      refine zi4 (M:=zbr A n i r) (M':=zbr A n i (r+1)) 900000 (.inr rfl) YE rp.ok (nr'.trans nr.symm) (Rr'.trans Rr.symm) rfl zrf (by simp only[go_sem,zaA]) ?_;have GT:∀ D e,QT (mkD 900000 (zbr A n i (r+1)) D) (mkE 900000 (zbr A n i (r+1)) e)=QT (mkD 900000 (zbr A n i (r+1)) D) e:=fun D e=>zbv rp'.ok
      have Kf:QB (mkL 900000 (zbr A n i (r+1))) 53=none:=zya (by omega);simp only[go_sem];cases bb with
      |true =>
       have JP:(QF A n i (r+1)).2=(QF A n i r).2+1:=JP;have Nf:pv r=((QF A n i r).2:Int):=Nf;have sd2:=zqB (n:=i) (g:=fun v=>if v=r then(-1:Int)else if v<r then pv v else 0) Kj (y:=((QF A n i r).2:Int));simp only[go_sem,Kf,wdw,cl,LN,sd2]
       (repeat(refine Qg (by omega) ?_))
       have hw:IntKind.i64.wrap (((QF A n i r).2:Int)+1)=(((QF A n i r).2+1:Nat):Int):=by rw[Q6 (by omega) (by omega)];omega
       refine⟨r+1,Kj,(by show i-(r+1)<i-r;omega),?_⟩
       (refine Q7 rfl ?_ ?_ ?_ ?_<;>(try simp only[go_sem,GT,JP,hw,Kf,wdw,Za,zdT,QH,Q6 (n:=(r:Int)+1) (by omega) (by omega)])<;>(try simp only[Qy,Qv,Qw,Qu]))
       rw[zaA (by omega)];refine⟨zjE,?_⟩;have e:fnG i (fun v=>if v=r then((QF A n i r).2:Int)else if v=r then(-1:Int)else if v<r then pv v else 0)=fnG i (fun q=>if q<r+1 then pv q else 0):=Yk fun v hv=>by
        by_cases e1:v=r
        .rw[Qc e1,Qc (by omega),e1,Nf]
        .rw[Qb e1,Qb e1]
         by_cases e2:v<r
         .rw[Qc e2,Qc (by omega)]
         .rw[Qb e2,Qb (by omega)]
       rw[<-e]
      |false =>
       have JP:(QF A n i (r+1)).2=(QF A n i r).2:=JP;have Nf:pv r = -1:=Nf;simp only[go_sem];refine⟨r+1,Kj,(by show i-(r+1)<i-r;omega),?_⟩
       (refine Q7 rfl ?_ ?_ ?_ ?_<;>(try simp only[go_sem,GT,JP,Kf,wdw,Za,zdT,QH,Q6 (n:=(r:Int)+1) (by omega) (by omega)])<;>(try simp only[Qy,Qv,Qw,Qu]))
       refine⟨zjE,?_⟩;have e:fnG i (fun v=>if v=r then(-1:Int)else if v<r then pv v else 0)=fnG i (fun q=>if q<r+1 then pv q else 0):=Yk fun v hv=>by
        by_cases e1:v=r
        .rw[Qc e1,Qc (by omega),e1,Nf]
        .rw[Qb e1]
         by_cases e2:v<r
         .rw[Qc e2,Qc (by omega)]
         .rw[Qb e2,Qb (by omega)]
       rw[e]
     .obtain rfl:r=i:=by omega
      simp only[go_sem];have e:fnG r (fun q=>if q<r then pv q else 0)=fnG r pv:=Yk fun q hq=>Qc hq
      rw[e];obtain⟨nM,RM⟩:=KY r (Qd _);have rp:=E3 r (Qd _);obtain⟨nS,RS⟩:=zc4 (a:=A) (n:=n) (R:=r) r;generalize zbr A n r r=M at nM RM rp ⊢;generalize (QF A n r r).2=kk;generalize (QF A n r r).1=S at rp nS RS ⊢;refine⟨_,GStep.trans (zmX (b:=900100) (sz:=2) (len:=n) (x:=fun i=>zcZ n (M.g i)) (r+n+n) ?_) (GStep.trans (zbu (b:=900001) (sz:=1) (len:=r) (cs:=Q5 (fun i=>[zcZ n (M.g (0+i))]) (List.range r)) ?_ (zmn (g:=fun i=>M.g (0+i)))) (GStep.trans (zbu (b:=900002) (sz:=1) (len:=n) (cs:=Q5 (fun i=>[zcZ n (M.g (r+i))]) (List.range n)) ?_ (zmn (g:=fun i=>M.g (r+i)))) (GStep.trans (zbu (b:=900003) (sz:=1) (len:=n) (cs:=Q5 (fun i=>[zcZ n (M.g (r+n+M.s i))]) (List.range n)) ?_ (zmn (g:=fun i=>M.g (r+n+M.s i)))) (zbu (b:=53) (sz:=1) (len:=r) (cs:=Q5 Yn (fnG r pv)) (x:=eL Yn (fnG r pv)) ?_ ?_)))),?_⟩
      .intro q hq
       refine⟨Q5 cJ (fnG n (M.g q)),?_,zub⟩;have:=zck (b:=900000) (M:=M) (e:=[(53,Q5 Yn (fnG r pv))]) (i:=q) (by unfold MX.N;omega);rw[nM]at this;exact this
      .simp only[go_sem]
       have:=zpk (b:=900100) (n:=r+n+n) (sz:=2) (len:=n) (x:=fun i=>zcZ n (M.g i)) (k:=0) (m:=r) (by omega);simp only[waY,wap]at this;rw[nM,RM];exact this
      .simp only[go_sem]
       rw[nM,RM,zpk (by omega),zg6]
      .simp only[go_sem]
       rw[nM,RM,show 900100+r+n=900100+(r+n)from wbg _ _ _,prmF (k:=r+n) (fun i hi=>by have:=rp.ok i (by omega);omega),zg6,zg6]
      .simp only[go_sem,Za,zg6]
      .have:=Yl (f:=Yn) (xs:=fnG r pv) zkL
       rw[Zc]at this;exact this
      .have eH:Zw r n (fun i=>M.g (0+i))=Zw S.R S.n S.h:=by
        rw[nS,RS];exact zka fun i j hi hj=>by rw[waY];exact rp.h i j (by omega) (by omega)
       have eU:Zw n n (fun i=>M.g (r+i))=Zw S.n S.n S.u:=by
        rw[nS];exact zka fun i j hi hj=>by have:=rp.u i j (by omega) (by omega);rw[RM]at this;exact this
       have eV:Zw n n (fun i=>M.g (r+n+M.s i))=Zw S.n S.n S.v:=by
        rw[nS];exact zka fun i j hi hj=>by have:=rp.v i j (by omega) (by omega);rw[RM,nM]at this;exact this
       rw[eH,eU,eV];refine⟨.inr rfl,fun x hx=>?_,?_,fun b cs h=>?_⟩
       .rcases wab.1 hx with rfl|hx
        .trivial
        .obtain rfl:=Qr.1 hx;trivial
       .refine congrArg AV.tup (List.cons_eq_cons.2 ⟨?_,List.cons_eq_cons.2 ⟨?_,rfl⟩⟩)
        .show St.s _ 4=_
         simp only[go_sem]
        .show St.s _ 5=_
         simp only[go_sem]
       .unfold zeO at h
        have h:(if b=900000 then some [C.t (eW (Zw S.R S.n S.h)),C.t (eW (Zw S.n S.n S.u)),C.t (eW (Zw S.n S.n S.v))]else none)=some cs:=h;by_cases e:b=900000
        .rw[Qc e]at h
         rw[<-h,e];simp only[go_sem,nM,RM]
        .rw[Qb e]at h;cases h
structure LK(l:List (Nat×List C)):Prop where
 key:∀ k∈l.map (·.1),PIN<=k
 refs:QT (l.map (·.1)) l=true
 all:∀ σ:St,(∀ b cs,QB l b=some cs->σ.H b=some cs)->ZA σ l
theorem LK.all'{l:List (Nat×List C)}(h:LK l){σ:St}(hH:∀ b,PIN<=b->σ.H b=QB l b):ZA σ l:=h.all σ fun b cs hb=>by
 have hm:b∈l.map (·.1):=waD fun hn=>by rw[zbg hn]at hb;cases hb
 rw[hH b (h.key b hm),hb]
section
variable {l e:List (Nat×List C)} {D:List Nat} {t:Nat}
theorem LK.lo(h:LK l)(ht:t<1000000):QB (l++e) t=QB e t:=by
 rw[zc2,zbg fun hm=>by have:=h.key t hm;have:PIN=1000000:=rfl;omega];rfl
theorem LK.refs'(h:LK l):QT (l.map Prod.fst++D) (l++e)=QT (l.map Prod.fst++D) e:=by
 rw[zgQ];have:QT (l.map Prod.fst++D) l=true:=by
  have h1:∀ (D:List Nat) (l0:List (Nat×List C)),QT D l0=true->∀ D',(∀ x∈D,x∈D')->QT D' l0=true:=fun D l0 h0 D' hD=>by
   induction l0 with
   |nil=>rfl
   |cons p l0 ih =>
    obtain⟨k,v⟩:=p;have h0:(v.all (Z9 D)&&QT D l0)=true:=h0;rw[wag,wai]at h0;show(v.all (Z9 D')&&QT D' l0)=true;rw[wag,wai];exact⟨fun c hc=>zse hD (h0.1 c hc),ih h0.2⟩
  exact h1 _ l h.refs _ fun x hx=>wbR _ hx
 rw[this,wbo]
theorem LK.ct(h:LK l)(ht:t<1000000):(l.map Prod.fst++D).contains t=D.contains t:=by
 rw[waU,waE,waE,wan];exact⟨fun h2=>h2.elim (fun hm=>by have:=h.key t hm;have:PIN=1000000:=rfl;omega) id,.inr⟩
theorem LK.hi{b:Nat}(hb:PIN<=b)(he:∀ k∈e.map (·.1),k<PIN):QB (l++e) b=QB l b:=by
 rw[zc2,zbg (l:=e) fun hm=>by have:=he b hm;omega];cases QB l b<;>rfl
theorem LK.look(h:LK l):∀ b cs,QB l b=some cs->QB (l++e) b=some cs:=fun b cs hb=>by rw[zc2,hb];rfl
end
theorem zvV{f:FuncId}{ys:List AV}{H H':QD}{r:AV}(h:RdC prog f ys H r)(hH:∀ b cs,H b=some cs->H' b=some cs):RdC prog f ys H' r :=
 fun H2 h2=>h H2 fun b cs hb=>h2 b cs (hH b cs hb)
theorem zzx(l:List (Nat×List C))(hl:LK l)(F:FuncId)(caps:List (Nat×Nat))(hc:∀ p∈caps,p.1∈l.map (·.1))(n:Nat)(x y:Nat->RI){A:Nat}(hA:A<=10000000000)(hn:n<1000000)
  (hx:∀ i,i<n->(x i).2.length<=A) (hy:∀ i,i<n->(y i).2.length<=A)
  (hF:∀ i,i<n->RdC prog F (litI .i64 i::caps.map zjX) (QB l) (.tup [.agg ((cI (x i)).map .t),.agg ((cI (y i)).map .t)])) :
  Zf prog 128 [litI .i64 n,.one (.fn F caps)] (QB l) (.agg ((cJ (smI (fun i=>vR (x i)*vR (y i)) n)).map .t)) (QB l):=by
 obtain⟨S,hS⟩:∃ S:Nat->Int,S=fun m=>smI (fun i=>vR (x i)*vR (y i)) m:=⟨_,rfl⟩
 have Gr:S 0=0:=by rw[hS];rfl
 have Oa:∀ m,S (m+1)=S m+vR (x m)*vR (y m):=fun m=>by rw[hS];rfl
 have Sv:smI (fun i=>vR (x i)*vR (y i)) n=S n:=by rw[hS]
 have Sw:∀ m,m<=n->lN (S m)<=2*A+m:=by
  intro m
  induction m with
  |zero=>intro _;rw[Gr];unfold lN;simp[Zi]
  |succ m ih =>
   intro hm;have h1:=ih (by omega);have h2:=za6 (S m) (vR (x m)*vR (y m));have h3:=ZX (vR (x m)) (vR (y m));have h4:lN (vR (x m))<=(x m).2.length:=zaX (x m).1 (x m).2;have h5:lN (vR (y m))<=(y m).2.length:=zaX (y m).1 (y m).2;have h6:=hx m (by omega);have h7:=hy m (by omega);rw[Oa];omega
 rw[Sv];have RL:∀ D,caps.all (fun p=>(l.map Prod.fst++D).contains p.1)=true:=fun D=>wai.2 fun p hp=>waE.2 (wbR _ (hc p hp))
 refine zaq QC call128 func128 rfl ntmps128 results128 (by simp) (by decide) ?_ ?_ ?_ ?_ ?_
 .exact zdQ hl.key
 .exact fun b=>wbn
 .exact zb9 hl.refs
 .exact fun c hc=>by obtain⟨t,_,rfl⟩:=Qp.1 hc;trivial
 .have hz:cJ 0=[.lit (.bool false),eN []]:=by show[T.lit (.bool (decide ((0:Int)<0))),eN (dig 0)]=_;rw[Zi];rfl
  have lo0:∀ t,t<1000000->QB l t=none:=fun t h=>by have:=hl.lo (e:=[]) h;rw[wal]at this;exact this
  have lo:=fun t e (h:t<1000000)=>hl.lo (e:=e) h
  have rf:=fun D e=>hl.refs' (D:=D) (e:=e)
  have ct:=fun t D (h:t<1000000)=>hl.ct (D:=D) h
  simp only[go_sem,lo0];refine QK (fun i:Nat=>stL 27 [(1,.one (.fn F caps)),(4,.one (.ptr 4 0)),(5,.one (.ptr 5 0)),(10,litI .i64 n),(11,litI .i64 i)]
   (l++[(5,(cJ (S i)).map .t),(4,[.t (.lit (.bool false)),.t (.seq none [])])])) (fun i=>i<=n) (fun i=>n-i) 0 ?_ (Qk _) ?_
  .have zc:WeakL [C.t (T.lit (Value.bool false)),C.t (T.seq (some true) [])] [C.t (T.lit (Value.bool false)),C.t (T.seq none [])]:=.cons .refl (.cons .seq .nil)
   refine GStep.trans (zar 4 (cs:=[C.t (T.lit (Value.bool false)),C.t (T.seq (some true) [])]) (by simp only[go_sem]) zc) (GStep.trans (zar 5 (cs:=[C.t (T.lit (Value.bool false)),C.t (T.seq (some true) [])]) (by simp only[go_sem]) zc) ?_);rw[Gr,hz]
   (refine Q7 rfl ?_ ?_ ?_ ?_<;>(try simp only[go_sem,lo0,rf,ct,RL,zcd])<;>(try simp only[Qy,Qv,Qw,Qu]))
   .refine⟨hl.all' ?_,rfl⟩
    repeat(first|exact fun _ _=>rfl|refine za7 (by decide) ?_)
   .rfl
  .intro i hi
   simp only[go_sem];refine QI (fun Yw=>?_) (fun YG=>?_)
   .have Yv:i<n:=by omega
    have rd:=hF i Yv;have o1:=zmi (x i).1 (x i).2 (y i).1 (y i).2 (by have:=hx i Yv;omega) (by have:=hy i Yv;omega);have JJ:=Sw i hi;have h3:=ZX (vR (x i)) (vR (y i));have h4:lN (vR (x i))<=(x i).2.length:=zaX (x i).1 (x i).2;have h5:lN (vR (y i))<=(y i).2.length:=zaX (y i).1 (y i).2;have h6:=hx i Yv;have h7:=hy i Yv;have o2:=zc7 (S i) (vR (x i)*vR (y i)) (by omega) (by omega);rw[<-Oa i]at o2;simp only[go_sem];refine zbL (.inr rfl) (zvV rd fun b cs hb=>hl.look b cs hb) ?_;simp only[go_sem,lo,cI];((repeat(refine Q4 0 rfl ?_;simp only[go_sem,lo]));refine Q3 (o1) rfl ?_;simp only[go_sem];(repeat(refine Q4 0 rfl ?_;simp only[go_sem,lo,cI]));refine Q3 (o2) rfl ?_;simp only[go_sem,lo];(repeat(refine Q4 0 rfl ?_;simp only[go_sem,lo,cI])));refine⟨i+1,Yv,(by show n-(i+1)<n-i;omega),?_⟩
    (refine Q7 rfl ?_ ?_ ?_ ?_<;>(try simp only[go_sem,lo,rf,ct,RL,zcd,Q6 (n:=(i:Int)+1) (by omega) (by omega)])<;>(try simp only[Qy,Qv,Qw,Qu]))
    .refine hl.all' ?_
     have h1:∀ b,PIN<=b->QB (l++[(5,[C.t (T.lit (Value.bool (decide (S i<0)))),C.t (eN (dig (S i).natAbs))]),(4,[C.t (T.lit (Value.bool false)),C.t (T.seq none [])])]) b=QB l b:=fun b hb =>
      LK.hi hb fun k hk=>by simp at hk;have:PIN=1000000:=rfl;omega
     repeat(first|exact h1|refine za7 (by decide) ?_)
    .rfl
   .obtain rfl:i=n:=by omega
    simp only[go_sem,lo];refine zeG (.inr rfl) ?_ ?_ ?_
    .simp only[go_sem,lo]
    .simp only[go_sem,lo]
    .simp only[go_sem]
     have h1:∀ b,PIN<=b->QB (l++[(5,[C.t (T.lit (Value.bool (decide (S i<0)))),C.t (eN (dig (S i).natAbs))]),(4,[C.t (T.lit (Value.bool false)),C.t (T.seq none [])])]) b=QB l b:=fun b hb =>
      LK.hi hb fun k hk=>by simp at hk;have:PIN=1000000:=rfl;omega
     exact fun b hb=>by rw[Qb (by have:PIN=1000000:=rfl;omega)];exact h1 b hb
def ZT(S:HX):List C:=[.t (eW (Zw S.R S.n S.h)),.t (eW (Zw S.n S.n S.u)),.t (eW (Zw S.n S.n S.v))]
theorem ztt{m:Nat}{σ:St}{Kp:AV->St->Prop}(a:List (List RI))(n:Nat){K L:Nat}{ys:List AV}(hm:m=1\/m=2)(hK:K<=4000000000)(hL:L<=10000000000)(hn:n<=40)(hR:a.length<40000)(ha:∀ row∈a,LR L row)(hb:zfl K (atW a) n a.length)
  (Wl:ys=[.one (.t (eW a)),litI .i64 n]) (hH:σ.H 900000=none)
  (LO:Kp (.tup [.one (.ptr 900000 0),.one (.t (eL Yn (fnG a.length (pvS (atW a) n a.length))))]) (σ.withH (upd σ.H 900000 (some (ZT (QF (atW a) n a.length a.length).1))))):ZK prog m 127 ys σ Kp:=by
 have hX:∀ b,QB (zeO (QF (atW a) n a.length a.length).1) b≠none->b=900000:=fun b hb=>by
  unfold zeO at hb;have hb:(if b=900000 then some _ else none)≠none:=hb;by_cases e:b=900000
  .exact e
  .rw[Qb e]at hb;exact(hb rfl).elim
 refine zfb (H':=upd σ.H 900000 (some (ZT (QF (atW a) n a.length a.length).1))) id hm (zyb a n hK hL hn hR ha hb) Wl (fun b hb=>?_) (fun b b' hb hb' _=>?_) (fun b cs hb=>?_) (fun x hx=>?_) ?_
 .obtain rfl:=hX b hb;exact⟨hH,by decide⟩
 .rw[hX b hb,hX b' hb']
 .obtain rfl:=hX b (by rw[hb];simp)
  show(if 900000=900000 then _ else _)=_;rw[Qc rfl];unfold zeO at hb;have hb:(if 900000=900000 then some _ else none)=some cs:=hb;rw[Qc rfl]at hb;cases hb;rfl
 .show(if x=900000 then _ else _)=_
  rw[Qb];intro e;refine hx 900000 ?_ (by rw[e];rfl);unfold zeO;show(if 900000=900000 then some _ else none)≠none;rw[Qc rfl];simp
 .exact LO
attribute [go_sem] ZT
theorem zlp{H:QD}{a b c:AV}{x y z:TV}(h1:FzA H a x)(h2:FzA H b y)(h3:FzA H c z):FzA H (.tup [a,b,c]) (.tup [x,y,z]):=.tup rfl fun j hj Yz=>by
 match j,hj with
 |0,_=>exact h1
 |1,_=>exact h2
 |2,_=>exact h3
theorem zrq{P:Program}{r1 r2:ResultVar}{x1 x2:AV}{X:QD}{e:Exit}{σ:St}(he:e = .normal\/e = .ret)(h1:zal P σ r1)(h2:zal P σ r2)(h3:zaT P σ r1=x1)(h4:zaT P σ r2=x2)(h5:∀ b,PIN<=b->σ.H b=X b):zhU P [r1,r2] (.tup [x1,x2]) X e σ :=
 ⟨he,fun x hx=>by
  rcases wab.1 hx with rfl|hx
  .exact h1
  .obtain rfl:=Qr.1 hx;exact h2,by show AV.tup [_,_]=_;rw[h3,h4],h5⟩
theorem zrv{n:Nat}{g:Nat->Rat}{i:Nat}(hi:i<n){q:Rat}:(Q5 cR (fnG n g)).take (i*3)++C.t (.lit (.bool (decide (q.num<0))))::C.t (eN (dig q.num.natAbs))::C.t (eN (dig q.den))::(Q5 cR (fnG n g)).drop (i*3+3)=Q5 cR (fnG n (fun v=>if v=i then q else g v)):=by
 have:=zgl (f:=cR) (sz:=3) zat hi (g:=g) (y:=q);rw[<-this];simp[Yh,cR]
theorem zjd{n:Nat}{g:Nat->Rat}:(Q5 cR (fnG n g)).length=n*3:=zbm zat
def lRs(S:HX):List (Nat×List C):=[(1000000,ZT S)]
theorem zqQ{S:HX}:LK (lRs S) where
 key:=fun k hk=>by unfold lRs at hk;simp at hk;have:PIN=1000000:=rfl;omega
 refs:=by simp[lRs,QT,Z9,ZT]
 all:=fun σ h=>⟨h 1000000 _ rfl,trivial⟩
theorem zoC{R n j k:Nat}{g:Nat->Nat->Int}(hj:j<R)(hk:k<n):QM cMw (Zw R n g) j=cMw (fnG n fun c=>Ys (g j c))/\QM cI (fnG n fun c=>Ys (g j c)) k=cJ (g j k):=by
 refine⟨?_,by rw[zdf hk,zqY]⟩;unfold Zw;rw[zdf hj]
structure LBrs(S:HX)(pv:Nat->Int)(r R:Nat)(q0:Rat)(B:Nat):Prop where
 out:∀ t,t<=r->∀ j,j<R->lQ (rsF S pv r q0 t j)<=B
 sum:∀ t,t<r->0<=pv (r-1-t)->∀ d,d<=t+1->lQ (smQ (fun d=>rsF S pv r q0 t (r-t+d)*(S.h (r-t+d) (pv (r-1-t)).toNat:Rat)) d)<=B
theorem zvE{P:Program}{n:Nat}{σ:St}:zb7 P [ResultVar.tmp n] σ=σ.s n:=rfl
theorem zvF(S:HX)(pv:Nat->Int)(r:Nat)(q0:Rat){B K:Nat}(hB:B<=1000000000)(hK:K<=1000000000)(hr:r<S.R)(hR:S.R<90000)(hn:S.n<90000)(VI:∀ i,i<r->pv i<S.n)(Ut:lQ q0<=B)(hH:∀ j c,j<S.R->c<S.n->lN (S.h j c)<=K)(hL:LBrs S pv r S.R q0 B) :
  Zf prog 132 [.one (.ptr PIN 0),.one (.t (eL Yn (fnG S.R pv))),litI .i64 r,.agg ((cR q0).map .t)] (QB (lRs S)) (.one (.t (eL cR (fnG S.R (rsF S pv r q0 r))))) (QB (lRs S)):=by
 have hl:=zqQ (S:=S);obtain⟨R,KO⟩:∃ R,R=S.R:=⟨_,rfl⟩
 obtain⟨n,hne⟩:∃ n,n=S.n:=⟨_,rfl⟩
 obtain⟨H,Td⟩:∃ H,H=S.h:=⟨_,rfl⟩
 refine zrU QC call132 func132 rfl ntmps132 results132 (by simp) (by decide) ?_ ?_ ?_ ?_ ?_
 .exact zdQ hl.key
 .exact fun b=>wbn
 .exact zb9 hl.refs
 .trivial
 .have z:Q9 prog 102 [zAg] (eQ 0):=by
   have:=(zmm false [] (by simp)).fz (tvs':=[zAg]) (.cons (Zk .t .weak) .nil);have e:((iv false []:Int):Rat)=0:=by
    have:iv false []=0:=by unfold iv;simp[val]
    rw[this];rfl
   rwa[e]at this
  have hh:=zu5 q0 (by omega);obtain⟨l,YZ⟩:∃ l,l=lRs S:=⟨_,rfl⟩
  have lo0:∀ t,t<1000000->QB l t=none:=fun t h=>by rw[YZ];have:=hl.lo (e:=[]) h;rw[wal]at this;exact this
  have lo:=fun t e (h:t<1000000)=>(YZ▸hl:LK l).lo (e:=e) h
  have rf:=fun D e=>(YZ▸hl:LK l).refs' (D:=D) (e:=e)
  have ct:=fun t D (h:t<1000000)=>(YZ▸hl:LK l).ct (D:=D) h
  have kp:∀ e,QB (l++e) 1000000=some (ZT S):=fun e=>by rw[YZ];rfl
  have ctp:∀ D,(l.map Prod.fst++D).contains 1000000=true:=fun D=>by rw[YZ];simp[lRs]
  have XW:∀ {σ:St},(∀ b,PIN<=b->σ.H b=QB l b)->ZA σ l:=fun {σ} h=>(YZ▸hl:LK l).all' h
  rw[<-YZ,<-KO];rw[<-KO]at hL hR hr;simp only[go_sem,PIN,lo0]
  (repeat(refine Qg (by omega) ?_))
  refine QK (fun i:Nat=>stL 111 [(0,.one (.ptr 1000000 0)),(1,.one (.t (eL Yn (fnG R pv)))),(2,litI .i64 r),(7,.one (.ptr 7 0)),(9,.one (.vec 20 3 0 R)),(22,litI .i64 R),(23,litI .i64 i)]
   (l++[(7,(cR q0).map .t),(20,Q5 cZ (((fnG R fun _=>(0:Rat)).take i).map some++List.replicate (R-i) none))])) (fun i=>i<=R) (fun i=>R-i) 0 ?_ (Qk _) ?_
  .rw[wao,wbI,waH,wbw]
   refine GStep.trans (zar 20 (cs:=Zg R z3) (by simp only[go_sem]<;>rfl) (ze1 _)) ?_
   (refine Q7 rfl ?_ ?_ ?_ ?_<;>(try simp only[go_sem,lo0,rf,ct,ctp,zcd,QH])<;>(try simp only[Qy,Qv,Qw,Qu]))
   all_goals first|rfl|(refine XW ?_;repeat(first|exact fun _ _=>rfl|exact(fun b hb=>LK.hi hb fun k hk=>by simp at hk;have:PIN=1000000:=rfl;omega)|refine za7 (by decide) ?_))|skip
  .intro i hi
   simp only[go_sem];refine QI (fun Yw=>?_) (fun YG=>?_)
   .have Yv:i<R:=by omega
    have Y0:(fnG R fun _=>(0:Rat)).length=R:=Zc;have Wl:(((fnG R fun _=>(0:Rat)).take i).map some++List.replicate (R-i) none).length=R:=by simp[Zc];omega
    have Yx:=zfR (l:=fnG R fun _=>(0:Rat)) (n:=R) (i:=i) (by rw[Y0];exact Yv) (by omega);rw[za2]at Yx;generalize ((fnG R fun _=>(0:Rat)).take i).map some++List.replicate (R-i) none=ys at *
    have VW:=zgC (ys:=ys) (i:=i) (by omega) (q:=0);rw[Yx]at VW;simp only[go_sem,Yw];((repeat(refine Q4 0 rfl ?_;simp only[go_sem,Yw]));refine Q3 (z) rfl ?_;simp only[go_sem,Yw];(repeat(refine Q4 0 rfl ?_;simp only[go_sem,Yw])));simp only[go_sem,lo,zgg]
    (repeat(refine Qg (by omega) ?_))
    refine⟨i+1,Yv,(by show R-(i+1)<R-i;omega),?_⟩
    (refine Q7 rfl ?_ ?_ ?_ ?_<;>(try simp only[go_sem,lo,rf,ct,ctp,zcd,QH,VW,Q6 (n:=(i:Int)+1) (by omega) (by omega)])<;>(try simp only[Qy,Qv,Qw,Qu]))
    all_goals first|rfl|(refine XW ?_;repeat(first|exact fun _ _=>rfl|exact(fun b hb=>LK.hi hb fun k hk=>by simp at hk;have:PIN=1000000:=rfl;omega)|refine za7 (by decide) ?_))|skip
   .obtain rfl:i=R:=by omega
    rw[waL (by rw[Zc];exact Qd _),wbl,wbX,wal,zgw];simp only[go_sem,lo];have Xh:((r:Int)<(i:Int))=True:=Qf (by omega);have cl:=fun g=>zjd (n:=i) (g:=g)
    have sd:=zrv (n:=i) (g:=fun _=>0) hr (q:=q0);have WL:IntKind.i64.wrap ((r:Int)-1)=(r:Int)-1-(0:Nat):=by rw[Q6 (by omega) (by omega)];omega
    ((repeat(refine Q4 0 rfl ?_;simp only[go_sem,lo,Xh,cl,sd]));refine Q3 (hh) rfl ?_;simp only[go_sem,lo,Xh,cl,sd];(repeat(refine Q4 0 rfl ?_;simp only[go_sem,lo,Xh,cl,sd])))
    (repeat(refine Qg (by omega) ?_))
    simp only[go_sem,WL];refine QK (fun t:Nat=>stL 111 [(0,.one (.ptr 1000000 0)),(1,.one (.t (eL Yn (fnG i pv)))),(2,litI .i64 r),(9,.one (.vec 20 3 0 i)),(11,litI .i64 ((r:Int)-1-t))]
     (l++[(20,Q5 cR (fnG i (rsF S pv r q0 t)))])) (fun t=>t<=r) (fun t=>r-t) 0 ?_ (Qk _) ?_
    ·(refine Q7 rfl ?_ ?_ ?_ ?_<;>(try simp only[go_sem,lo,rf,ct,ctp,zcd,QH])<;>(try simp only[Qy,Qv,Qw,Qu]))
     refine⟨XW ?_,?_⟩
     .repeat(first|exact fun _ _=>rfl|exact(fun b hb=>LK.hi hb fun k hk=>by simp at hk;have:PIN=1000000:=rfl;omega)|refine za7 (by decide) ?_)
     .rfl
    .intro t ht
     simp only[go_sem];refine QI (fun PN=>?_) (fun Rf=>?_)
     .have VQ:t<r:=by omega
      obtain⟨q,hq⟩:∃ q,q=r-1-t:=⟨_,rfl⟩
      have FO:(r:Int)-1-(t:Int)=(q:Int):=by omega
      have MG:q<i:=by omega
      have ep:QM Yn (fnG i pv) q=Yn (pv q):=zdf MG;have Wb:((q:Int)<(i:Int))=True:=Qf (by omega);have Vx:IntKind.i64.wrap ((q:Int)-1)=(r:Int)-1-((t+1:Nat):Int):=by rw[Q6 (by omega) (by omega)];omega
      have Yx:rsF S pv r q0 (t+1)=if pv q<0 then rsF S pv r q0 t else fun j=>if j=q then -(smQ (fun d=>rsF S pv r q0 t (r-t+d)*(S.h (r-t+d) (pv q).toNat:Rat)) (t+1)*(S.h q (pv q).toNat:Rat)⁻¹)else rsF S pv r q0 t j:=by rw[hq];rfl
      rw[FO];simp only[go_sem,ep,Wb]
      (repeat(refine Qg (by omega) ?_))
      refine QI (fun Uv=>?_) (fun HW=>?_)
      .simp only[go_sem]
       rw[Qc Uv]at Yx;refine⟨t+1,VQ,(by show r-(t+1)<r-t;omega),?_⟩
       (refine Q7 rfl ?_ ?_ ?_ ?_<;>(try simp only[go_sem,lo,rf,ct,ctp,zcd,QH,Yx,Vx])<;>(try simp only[Qy,Qv,Qw,Qu]))
       all_goals first|rfl|(refine XW ?_;repeat(first|exact fun _ _=>rfl|exact(fun b hb=>LK.hi hb fun k hk=>by simp at hk;have:PIN=1000000:=rfl;omega)|refine za7 (by decide) ?_))|skip
      .simp only[go_sem]
       rw[Qb HW]at Yx;obtain⟨kn,XQ⟩:∃ kn:Nat,(kn:Int)=pv q:=⟨(pv q).toNat,by omega⟩
       rw[<-XQ]at Yx ⊢;have WV:r-t=q+1:=by omega
       have EV:((kn:Int)).toNat=kn:=wbD kn;have Ul:=hL.sum t VQ (by rw[<-hq];omega);rw[<-hq,<-XQ,EV,WV]at Ul;rw[EV,WV]at Yx;have EW:kn<S.n:=by have:=VI q (by omega);omega
       have Xv:((kn:Int)<(S.n:Int))=True:=Qf (by omega);obtain⟨ou,EX⟩:∃ ou,ou=rsF S pv r q0 t:=⟨_,rfl⟩
       have EY:∀ j,j<i->lQ (ou j)<=B:=fun j hj=>by rw[EX];exact hL.out t (by omega) j hj
       rw[<-EX]at Ul Yx ⊢;obtain⟨f,hf⟩:∃ f:Nat->Rat,f=fun d=>ou (q+1+d)*(S.h (q+1+d) kn:Rat):=⟨_,rfl⟩
       rw[<-hf]at Ul Yx;have XA:IntKind.i64.wrap ((q:Int)+1)=((q+1+0:Nat):Int):=by rw[Q6 (by omega) (by omega)];omega
       ((repeat(refine Q4 0 rfl ?_;simp only[go_sem,lo]));refine Q3 (z) rfl ?_;simp only[go_sem,lo];(repeat(refine Q4 0 rfl ?_;simp only[go_sem,lo])));simp only[go_sem,XA];refine QK (fun d:Nat=>stL 111 [(0,.one (.ptr 1000000 0)),(1,.one (.t (eL Yn (fnG i pv)))),(2,litI .i64 r),(9,.one (.vec 20 3 0 i)),(11,litI .i64 q),(12,litI .i64 kn),(13,.one (.ptr 13 0)),(14,litI .i64 (q+1+d:Nat))]
        (l++[(20,Q5 cR (fnG i ou)),(13,(cR (smQ f d)).map .t)])) (fun d=>d<=t+1) (fun d=>t+1-d) 0 ?_ (Qk _) ?_
       .have UX:smQ f 0=0:=rfl
        rw[UX]
        (refine Q7 rfl ?_ ?_ ?_ ?_<;>(try simp only[go_sem,lo,rf,ct,ctp,zcd,QH])<;>(try simp only[Qy,Qv,Qw,Qu]))
        all_goals first|rfl|(refine XW ?_;repeat(first|exact fun _ _=>rfl|exact(fun b hb=>LK.hi hb fun k hk=>by simp at hk;have:PIN=1000000:=rfl;omega)|refine za7 (by decide) ?_))|skip
       .intro d hd
        simp only[go_sem];refine QI (fun YZ=>?_) (fun WP=>?_)
        .obtain⟨j,hj⟩:∃ j,j=q+1+d:=⟨_,rfl⟩
         have K5:j<i:=by omega
         have KS:((j:Int)<(i:Int))=True:=Qf (by omega);have RH:((j:Int)<(S.R:Int))=True:=Qf (by omega);obtain⟨e1,e2⟩:=zoC (R:=S.R) (n:=S.n) (g:=S.h) (j:=j) (k:=kn) (by omega) EW;have JJ:=EY j K5;have WK:=hH j kn (by omega) EW;have PO:=zfh (S.h j kn);have GX:=zfg (ou j) (S.h j kn:Rat);have PP:=Ul d hd;have o1:=zgh (S.h j kn) (by omega);have o2:=zgj (ou j) (S.h j kn:Rat) (by omega) (by omega);have o3:=zgx (smQ f d) (ou j*(S.h j kn:Rat)) (by omega) (by omega);have Nd:smQ f d+ou j*(S.h j kn:Rat)=smQ f (d+1):=by rw[hj];show _=smQ f d+f d;rw[hf]
         rw[Nd]at o3;have ca:=Z1 (f:=cR) (sz:=3) (g:=ou) (n:=i) zat K5;have cl:=fun g=>zjd (n:=i) (g:=g)
         have VB:((q+1+(d+1):Nat):Int)=(j:Int)+1:=by omega
         have KY:d+1<=t+1:=by omega
         rw[<-hj];simp only[go_sem];refine Q4 0 rfl ?_;simp only[go_sem,lo,kp,ZT,e1,e2,KS,RH,Xv,ca,zah,ZN]
         (repeat(refine Qg (by omega) ?_))
         ((repeat(refine Q4 0 rfl ?_;simp only[go_sem,lo,kp,ZT,e1,e2,KS,RH,Xv,ca,cl,zah,ZN]));refine Q3 (o1) rfl ?_;simp only[go_sem];(repeat(refine Q4 0 rfl ?_;simp only[go_sem,lo,kp,ZT,e1,e2,KS,RH,Xv,ca,cl,zah,ZN]));refine Q3 (o2) rfl ?_;simp only[go_sem];(repeat(refine Q4 0 rfl ?_;simp only[go_sem,lo,kp,ZT,e1,e2,KS,RH,Xv,ca,cl,zah,ZN]));refine Q3 (o3) rfl ?_;simp only[go_sem,lo];(repeat(refine Q4 0 rfl ?_;simp only[go_sem,lo,kp,ZT,e1,e2,KS,RH,Xv,ca,cl,zah,ZN])));refine⟨d+1,KY,(by show t+1-(d+1)<t+1-d;omega),?_⟩
         (refine Q7 rfl ?_ ?_ ?_ ?_<;>(try simp only[go_sem,lo,rf,ct,ctp,zcd,QH,VB,Q6 (n:=(j:Int)+1) (by omega) (by omega)])<;>(try simp only[Qy,Qv,Qw,Qu]))
         all_goals first|rfl|(refine XW ?_;repeat(first|exact fun _ _=>rfl|exact(fun b hb=>LK.hi hb fun k hk=>by simp at hk;have:PIN=1000000:=rfl;omega)|refine za7 (by decide) ?_))|skip
        .obtain rfl:d=t+1:=by omega
         obtain⟨e1,e2⟩:=zoC (R:=S.R) (n:=S.n) (g:=S.h) (j:=q) (k:=kn) (by omega) EW;have Jv:((q:Int)<(S.R:Int))=True:=Qf (by omega);have WK:=hH q kn (by omega) EW;have PO:=zfh (S.h q kn);have PP:=Ul (t+1) (Qd _);have Te:=zjn (S.h q kn:Rat);have Tf:=zfg (smQ f (t+1)) (S.h q kn:Rat)⁻¹;have o1:=zgh (S.h q kn) (by omega);have o2:=zlZ (S.h q kn:Rat) (by omega);have o3:=zgj (smQ f (t+1)) (S.h q kn:Rat)⁻¹ (by omega) (by omega);have o4:=zhn (smQ f (t+1)*(S.h q kn:Rat)⁻¹) (by omega);have cl:=fun g=>zjd (n:=i) (g:=g)
         have sd:=zrv (n:=i) (g:=ou) MG (q:=-(smQ f (t+1)*(S.h q kn:Rat)⁻¹));simp only[go_sem];refine Q4 0 rfl ?_;simp only[go_sem,lo,kp,ZT,e1,e2,Jv,Xv,zah,ZN]
         (repeat(refine Qg (by omega) ?_))
         ((repeat(refine Q4 0 rfl ?_;simp only[go_sem,lo,kp,ZT,e1,e2,Wb,Jv,Xv,cl,zah,ZN,sd]));refine Q3 (o1) rfl ?_;simp only[go_sem];(repeat(refine Q4 0 rfl ?_;simp only[go_sem,lo,kp,ZT,e1,e2,Wb,Jv,Xv,cl,zah,ZN,sd]));refine Q3 (o2) rfl ?_;simp only[go_sem];(repeat(refine Q4 0 rfl ?_;simp only[go_sem,lo,kp,ZT,e1,e2,Wb,Jv,Xv,cl,zah,ZN,sd]));refine Q3 (o3) rfl ?_;simp only[go_sem];(repeat(refine Q4 0 rfl ?_;simp only[go_sem,lo,kp,ZT,e1,e2,Wb,Jv,Xv,cl,zah,ZN,sd]));refine Q3 (o4) rfl ?_;simp only[go_sem,lo,Wb,cl,sd];(repeat(refine Q4 0 rfl ?_;simp only[go_sem,lo,kp,ZT,e1,e2,Wb,Jv,Xv,cl,zah,ZN,sd])))
         (repeat(refine Qg (by omega) ?_))
         refine⟨t+1,VQ,(by show r-(t+1)<r-t;omega),?_⟩
         (refine Q7 rfl ?_ ?_ ?_ ?_<;>(try simp only[go_sem,lo,rf,ct,ctp,zcd,QH,Yx,Vx])<;>(try simp only[Qy,Qv,Qw,Qu]))
         all_goals first|rfl|(refine XW ?_;repeat(first|exact fun _ _=>rfl|exact(fun b hb=>LK.hi hb fun k hk=>by simp at hk;have:PIN=1000000:=rfl;omega)|refine za7 (by decide) ?_))|skip
     .obtain rfl:t=r:=by omega
      obtain⟨ou,EX⟩:∃ ou,ou=rsF S pv t q0 t:=⟨_,rfl⟩
      rw[<-EX];simp only[go_sem,lo]
      (repeat(refine Qg (by omega) ?_))
      refine QK (fun m:Nat=>stL 111 [(15,.one (.vec 96 3 0 i)),(97,.one (.vec 20 3 0 i)),(98,litI .i64 i),(99,litI .i64 m)]
       (l++[(20,Q5 cR (fnG i ou)),(96,Q5 cZ (((fnG i ou).take m).map some++List.replicate (i-m) none))])) (fun m=>m<=i) (fun m=>i-m) 0 ?_ (Qk _) ?_
      .rw[wao,wbI,waH,wbw]
       refine GStep.trans (zar 96 (cs:=Zg i z3) (by simp only[go_sem]<;>rfl) (ze1 _)) ?_
       (refine Q7 rfl ?_ ?_ ?_ ?_<;>(try simp only[go_sem,lo,rf,ct,zcd,QH])<;>(try simp only[Qy,Qv,Qw,Qu]))
       all_goals first|rfl|(refine XW ?_;repeat(first|exact fun _ _=>rfl|exact(fun b hb=>LK.hi hb fun k hk=>by simp at hk;have:PIN=1000000:=rfl;omega)|refine za7 (by decide) ?_))|skip
      .intro m hm
       simp only[go_sem];refine QI (fun KM=>?_) (fun UG=>?_)
       .have Xo:m<i:=by omega
        have Wl:(((fnG i ou).take m).map some++List.replicate (i-m) none).length=i:=by simp[Zc];omega
        have Yx:=zfR (l:=fnG i ou) (n:=i) (i:=m) (by rw[Zc];exact Xo) (by rw[Zc];exact Qd _);rw[za2]at Yx;generalize ((fnG i ou).take m).map some++List.replicate (i-m) none=ys at *
        have VW:=zgC (ys:=ys) (i:=m) (by omega) (q:=ou m);rw[Yx]at VW;have ca:=Z1 (f:=cR) (sz:=3) (g:=ou) (n:=i) zat Xo;have cl:=fun g=>zjd (n:=i) (g:=g)
        have o1:=zi8 (ou m);simp only[go_sem,lo,ca,KM]
        (repeat(refine Qg (by omega) ?_))
        ((repeat(refine Q4 0 rfl ?_;simp only[go_sem,lo,ca,cl,KM]));refine Q3 (o1) rfl ?_;simp only[go_sem,lo,KM];(repeat(refine Q4 0 rfl ?_;simp only[go_sem,lo,ca,cl,KM])));simp only[go_sem,zgg]
        (repeat(refine Qg (by omega) ?_))
        refine⟨m+1,Xo,(by show i-(m+1)<i-m;omega),?_⟩
        (refine Q7 rfl ?_ ?_ ?_ ?_<;>(try simp only[go_sem,lo,rf,ct,zcd,QH,VW,Q6 (n:=(m:Int)+1) (by omega) (by omega)])<;>(try simp only[Qy,Qv,Qw,Qu]))
        all_goals first|rfl|(refine XW ?_;repeat(first|exact fun _ _=>rfl|exact(fun b hb=>LK.hi hb fun k hk=>by simp at hk;have:PIN=1000000:=rfl;omega)|refine za7 (by decide) ?_))|skip
       .obtain rfl:m=i:=by omega
        rw[waL (by rw[Zc];exact Qd _),wbl,wbX,wal,zgw];simp only[go_sem];refine⟨_,zbu (b:=96) (sz:=3) (len:=m) (cs:=Q5 cR (fnG m ou)) (x:=eL cR (fnG m ou)) ?_ ?_,.inr rfl,(fun x hx=>by obtain rfl:=Qr.1 hx;trivial),?_,fun b hb=>?_⟩
        .simp only[go_sem,lo]
        .have:=Yl (f:=cR) (xs:=fnG m ou) zat
         rw[Zc]at this;exact this
        .rw[zvE]
         simp only[go_sem]
        .have hb':1000000<=b:=hb
         have e1:QB (l++[(20,Q5 cR (fnG m ou)),(96,Q5 cR (fnG m ou))]) b=QB l b:=LK.hi hb fun k hk=>by simp at hk;have:PIN=1000000:=rfl;omega
         have e2:(QB l b).map (fun cs=>cs.map (fC 96 3 m (eL cR (fnG m ou))))=QB l b:=by
          rw[YZ];show(if b=1000000 then some (ZT S)else none).map _=if b=1000000 then some (ZT S)else none
          by_cases e:b=1000000
          .rw[Qc e];rfl
          .rw[Qb e];rfl
         simp only[go_sem];rw[Qb (by omega),e1];exact e2
def lB(row:List RI)(m:Nat)(y:Nat->Int):List (Nat×List C):=[(1000000,[.t (eL cI row)]),(1000001,[.vec 1000002 2 0 m]),(1000002,Q5 cJ (fnG m y))]
theorem zmq{row:List RI}{m:Nat}{y:Nat->Int}:LK (lB row m y) where
 key:=fun k hk=>by unfold lB at hk;simp at hk;have:PIN=1000000:=rfl;omega
 refs:=by simp[lB,QT,Z9,QH]
 all:=fun σ h=>⟨h 1000000 _ rfl,h 1000001 _ rfl,h 1000002 _ rfl,trivial⟩
theorem zgF{row:List RI}{m x:Nat}{y:Nat->Int}(h:QB (lB row m y) x≠none):x=1000000\/x=1000001\/x=1000002:=by
 have h:(if x=1000000 then some _ else if x=1000001 then some _ else if x=1000002 then some _ else none)≠none:=h;by_cases e1:x=1000000
 .exact .inl e1
 .rw[Qb e1]at h
  by_cases e2:x=1000001
  .exact .inr (.inl e2)
  .rw[Qb e2]at h
   by_cases e3:x=1000002
   .exact .inr (.inr e3)
   .rw[Qb e3]at h;exact(h rfl).elim
theorem zyS(row:List RI)(m:Nat)(y:Nat->Int)(k:Nat)(hk:k<row.length)(Ka:k<m)(YT:row.length<1000000000)(hm:m<1000000000) :
  Zf prog 129 [litI .i64 k,.one (.ptr PIN 0),.one (.ptr (PIN+1) 0)] (QB (lB row m y)) (.tup [.agg ((cI row[k]).map .t),.agg ((cI (Ys (y k))).map .t)]) (QB (lB row m y)):=by
 have hl:=zmq (row:=row) (m:=m) (y:=y);refine zaq QC call129 func129 rfl ntmps129 results129 (by simp) (by decide) ?_ ?_ ?_ ?_ ?_
 .exact zdQ hl.key
 .exact fun b=>wbn
 .exact zb9 hl.refs
 .exact⟨fun c hc=>by obtain⟨t,_,rfl⟩:=Qp.1 hc;trivial,fun c hc=>by obtain⟨t,_,rfl⟩:=Qp.1 hc;trivial,trivial⟩
 .have e1:QM cI row k=cI row[k]:=Q8 hk
  have ca:=Z1 (f:=cJ) (sz:=2) (g:=y) (n:=m) Ye Ka;have cl:=fun g=>zaB (n:=m) (g:=g)
  have NP:((k:Int)<(row.length:Int))=True:=Qf (by omega);have NQ:((k:Int)<(m:Int))=True:=Qf (by omega);generalize row[k]=p at *
  simp only[go_sem,PIN,lB];refine zdG 10 rfl ?_;refine QN.take' 1 rfl (by decide +kernel) (by decide +kernel) (by decide +kernel) (by simp only[go_sem]) (zdx rfl) ?_;refine QN.take' 5 rfl (by decide +kernel) (by decide +kernel) (by decide +kernel) (by simp only[go_sem]) (zdx rfl) ?_
  repeat' (first|(refine QN.done (by decide +kernel) ?_)|(refine QN.take' 2 rfl (by decide +kernel) (by decide +kernel) (by decide +kernel) (by simp only[go_sem]) (zh7 (t:=23) (n:=row.length) rfl (by simp only[go_sem]) (by simp only[go_sem]) (by simp only[go_sem]) (by simp only[go_sem,ZN]<;>(try exact fun _ _=>rfl)<;>simp[ZN]) (by simp only[go_sem]) (by simp only[go_sem,NP]<;>omega)) ?_)|(refine QN.take' 6 rfl (by decide +kernel) (by decide +kernel) (by decide +kernel) (by simp only[go_sem]) (zh7 (t:=23) (n:=m) rfl (by simp only[go_sem]) (by simp only[go_sem]) (by simp only[go_sem]) (by simp only[go_sem]<;>(try exact fun _ _=>rfl)<;>simp[ZN]) (by simp only[go_sem]) (by simp only[go_sem,NQ]<;>omega)) ?_)|(refine QN.two' 0 4 (by decide +kernel) rfl rfl (by simp only[go_sem]) (by simp only[go_sem]) ?_ ?_)|(refine QN.two' 0 7 (by decide +kernel) rfl rfl (by simp only[go_sem]) (by simp only[go_sem]) ?_ ?_)|(refine QN.two' 3 4 (by decide +kernel) rfl rfl (by simp only[go_sem]) (by simp only[go_sem]) ?_ ?_)|(refine QN.two' 3 7 (by decide +kernel) rfl rfl (by simp only[go_sem]) (by simp only[go_sem]) ?_ ?_)|(refine QN.two' 4 8 (by decide +kernel) rfl rfl (by simp only[go_sem]) (by simp only[go_sem]) ?_ ?_)|(refine QN.two' 7 8 (by decide +kernel) rfl rfl (by simp only[go_sem]) (by simp only[go_sem]) ?_ ?_)|(refine QN.one' 9 (by decide +kernel) rfl (by simp only[go_sem]) ?_)|(refine QN.one' 0 (by decide +kernel) rfl (by simp only[go_sem]) ?_)|(refine QN.one' 3 (by decide +kernel) rfl (by simp only[go_sem]) ?_)|(refine QN.one' 8 (by decide +kernel) rfl (by simp only[go_sem]) ?_)|(refine QN.one' 4 (by decide +kernel) rfl (by simp only[go_sem]) ?_)|(refine QN.one' 7 (by decide +kernel) rfl (by simp only[go_sem]) ?_)|(simp only[go_sem,e1,ca,cI];(repeat(refine Qg (by omega) ?_))))
  all_goals(
   refine zrq (.inr rfl) ?_ ?_ ?_ ?_ ?_
   .simp only[go_sem]
   .simp only[go_sem]
   .simp only[go_sem]
   .simp only[go_sem]
    rfl
   .repeat(first|exact fun _ _=>rfl|refine za7 (by decide) ?_))
theorem zyT(row:List RI)(m:Nat)(y:Nat->Int)(k:Nat)(hk:k<row.length)(Ka:k<m)(YT:row.length<1000000000)(hm:m<1000000000) :
  Zf prog 134 [litI .i64 k,.one (.ptr PIN 0),.one (.ptr (PIN+1) 0)] (QB (lB row m y)) (.tup [.agg ((cI row[k]).map .t),.agg ((cI (Ys (y k))).map .t)]) (QB (lB row m y)):=by
 have hl:=zmq (row:=row) (m:=m) (y:=y);refine zaq QC call134 func134 rfl ntmps134 results134 (by simp) (by decide) ?_ ?_ ?_ ?_ ?_
 .exact zdQ hl.key
 .exact fun b=>wbn
 .exact zb9 hl.refs
 .exact⟨fun c hc=>by obtain⟨t,_,rfl⟩:=Qp.1 hc;trivial,fun c hc=>by obtain⟨t,_,rfl⟩:=Qp.1 hc;trivial,trivial⟩
 .have e1:QM cI row k=cI row[k]:=Q8 hk
  have ca:=Z1 (f:=cJ) (sz:=2) (g:=y) (n:=m) Ye Ka;have cl:=fun g=>zaB (n:=m) (g:=g)
  have NP:((k:Int)<(row.length:Int))=True:=Qf (by omega);have NQ:((k:Int)<(m:Int))=True:=Qf (by omega);generalize row[k]=p at *
  simp only[go_sem,PIN,lB];refine zdG 10 rfl ?_;refine QN.take' 1 rfl (by decide +kernel) (by decide +kernel) (by decide +kernel) (by simp only[go_sem]) (zdx rfl) ?_;refine QN.take' 5 rfl (by decide +kernel) (by decide +kernel) (by decide +kernel) (by simp only[go_sem]) (zdx rfl) ?_
  repeat' (first|(refine QN.done (by decide +kernel) ?_)|(refine QN.take' 2 rfl (by decide +kernel) (by decide +kernel) (by decide +kernel) (by simp only[go_sem]) (zh7 (t:=23) (n:=row.length) rfl (by simp only[go_sem]) (by simp only[go_sem]) (by simp only[go_sem]) (by simp only[go_sem,ZN]<;>(try exact fun _ _=>rfl)<;>simp[ZN]) (by simp only[go_sem]) (by simp only[go_sem,NP]<;>omega)) ?_)|(refine QN.take' 6 rfl (by decide +kernel) (by decide +kernel) (by decide +kernel) (by simp only[go_sem]) (zh7 (t:=23) (n:=m) rfl (by simp only[go_sem]) (by simp only[go_sem]) (by simp only[go_sem]) (by simp only[go_sem]<;>(try exact fun _ _=>rfl)<;>simp[ZN]) (by simp only[go_sem]) (by simp only[go_sem,NQ]<;>omega)) ?_)|(refine QN.two' 0 4 (by decide +kernel) rfl rfl (by simp only[go_sem]) (by simp only[go_sem]) ?_ ?_)|(refine QN.two' 0 7 (by decide +kernel) rfl rfl (by simp only[go_sem]) (by simp only[go_sem]) ?_ ?_)|(refine QN.two' 3 4 (by decide +kernel) rfl rfl (by simp only[go_sem]) (by simp only[go_sem]) ?_ ?_)|(refine QN.two' 3 7 (by decide +kernel) rfl rfl (by simp only[go_sem]) (by simp only[go_sem]) ?_ ?_)|(refine QN.two' 4 8 (by decide +kernel) rfl rfl (by simp only[go_sem]) (by simp only[go_sem]) ?_ ?_)|(refine QN.two' 7 8 (by decide +kernel) rfl rfl (by simp only[go_sem]) (by simp only[go_sem]) ?_ ?_)|(refine QN.one' 9 (by decide +kernel) rfl (by simp only[go_sem]) ?_)|(refine QN.one' 0 (by decide +kernel) rfl (by simp only[go_sem]) ?_)|(refine QN.one' 3 (by decide +kernel) rfl (by simp only[go_sem]) ?_)|(refine QN.one' 8 (by decide +kernel) rfl (by simp only[go_sem]) ?_)|(refine QN.one' 4 (by decide +kernel) rfl (by simp only[go_sem]) ?_)|(refine QN.one' 7 (by decide +kernel) rfl (by simp only[go_sem]) ?_)|(simp only[go_sem,e1,ca,cI];(repeat(refine Qg (by omega) ?_))))
  all_goals(
   refine zrq (.inr rfl) ?_ ?_ ?_ ?_ ?_
   .simp only[go_sem]
   .simp only[go_sem]
   .simp only[go_sem]
   .simp only[go_sem]
    rfl
   .repeat(first|exact fun _ _=>rfl|refine za7 (by decide) ?_))
theorem zxD{row:List RI}{m:Nat}{y:Nat->Int}:∀ p∈[(PIN,0),(PIN+1,0)],p.1∈(lB row m y).map (·.1):=fun p hp=>by
 unfold lB;rcases wab.1 hp with rfl|hp
 .simp[PIN]
 .obtain rfl:=Qr.1 hp;simp[PIN]
theorem zxE{row:List RI}{m:Nat}{y:Nat->Int}{n:Int}{F:FuncId}:∀ x∈[litI .i64 n,AV.one (.fn F [(PIN,0),(PIN+1,0)])],inA (QB (lB row m y)) x :=
 Q2.2 ⟨trivial,Q2.2 ⟨(fun p hp=>by
  unfold lB;rcases wab.1 hp with rfl|hp
  .show QB _ 1000000≠none;simp[QB]
  .obtain rfl:=Qr.1 hp
   show QB _ 1000001≠none;simp[QB]),fun x hx=>by cases hx⟩⟩
theorem zqf{F:FuncId}(row:List RI)(m:Nat)(y:Nat->Int)(q:Nat){L:Nat}(hL:L<=10000000000)(hr:LR L row)(hy:∀ j,j<m->lN (y j)<=L)(hq:q<=row.length)(J0:q<=m)(hm:m<1000000)
  (hF:∀ k (hk:k<row.length),k<m->Zf prog F [litI .i64 k,.one (.ptr PIN 0),.one (.ptr (PIN+1) 0)] (QB (lB row m y)) (.tup [.agg ((cI row[k]).map .t),.agg ((cI (Ys (y k))).map .t)]) (QB (lB row m y)))
  {c1 c2 c3:Nat} (Hu:c1≠c2) (Hv:c1≠c3) (Og:c2≠c3) {H:QD} (h1:H c1=some [.t (eL cI row)]) (h2:H c2=some [.vec c3 2 0 m]) (h3:H c3=some (Q5 cJ (fnG m y))) :
  RdC prog 128 [litI .i64 q,.one (.fn F [(c1,0),(c2,0)])] H (.agg ((cJ (smI (fun k=>atR row k*y k) q)).map .t)):=by
 have hl:=zmq (row:=row) (m:=m) (y:=y)
 have hs:=zzx (lB row m y) hl F [(PIN,0),(PIN+1,0)] zxD q (fun k=>(row[k]?).getD (false,[])) (fun k=>Ys (y k)) (A:=L) hL (by omega) (fun k hk=>by
    rw[waa (by omega)];exact hr.2 _ (Qh _)) (fun k hk=>hy k (by omega)) (fun k hk=>?_)
 .have e:smI (fun i=>vR ((row[i]?).getD (false,[]))*vR (Ys (y i))) q=smI (fun k=>atR row k*y k) q:=Zm fun k hk=>by
   rw[zhz,waa (by omega),zgz (by omega)];rfl
  rw[e]at hs;refine zeC (fun k=>if k=0 then c1 else if k=1 then c2 else c3) hs (zdQ hl.key) (fun b b' hb hb' e=>?_) (zb9 hl.refs) zxE (fun b cs hb=>?_)
  .have k0:thI (fun k=>if k=0 then c1 else if k=1 then c2 else c3) 1000000=c1:=rfl
   have k1:thI (fun k=>if k=0 then c1 else if k=1 then c2 else c3) 1000001=c2:=rfl;have k2:thI (fun k=>if k=0 then c1 else if k=1 then c2 else c3) 1000002=c3:=rfl;rcases zgF hb with rfl|rfl|rfl<;>rcases zgF hb' with rfl|rfl|rfl
   .rfl
   .rw[k0,k1]at e;exact(Hu e).elim
   .rw[k0,k2]at e;exact(Hv e).elim
   .rw[k0,k1]at e;exact(Hu e.symm).elim
   .rfl
   .rw[k1,k2]at e;exact(Og e).elim
   .rw[k0,k2]at e;exact(Hv e.symm).elim
   .rw[k1,k2]at e;exact(Og e.symm).elim
   .rfl
  .rcases zgF (x:=b) (by rw[hb];simp)with rfl|rfl|rfl
   .have hb:some [C.t (eL cI row)]=some cs:=hb
    cases hb;exact h1
   .have hb:some [C.vec 1000002 2 0 m]=some cs:=hb
    cases hb;exact h2
   .have hb:some (Q5 cJ (fnG m y))=some cs:=hb
    cases hb
    rw[zj8];exact h3
 .have h:=hF k (by omega) (by omega)
  rw[waa (by omega)];refine zeC (fun k=>PIN+k) h (zdQ hl.key) (fun b b' hb hb' e=>?_) (zb9 hl.refs) (Q2.2 ⟨trivial,Q2.2 ⟨by unfold lB;show QB _ 1000000≠none;simp[QB],Q2.2 ⟨by unfold lB;show QB _ 1000001≠none;simp[QB],fun x hx=>by cases hx⟩⟩⟩) (fun b cs hb=>?_)
  .rcases zgF hb with rfl|rfl|rfl<;>rcases zgF hb' with rfl|rfl|rfl<;>first|rfl|(exact Qo e (by decide))
  .rcases zgF (x:=b) (by rw[hb];simp)with rfl|rfl|rfl
   .have hb:some [C.t (eL cI row)]=some cs:=hb
    cases hb;rfl
   .have hb:some [C.vec 1000002 2 0 m]=some cs:=hb
    cases hb;rfl
   .have hb:some (Q5 cJ (fnG m y))=some cs:=hb
    cases hb
    rw[zj8];rfl
structure LBsol(S:HX)(pv:Nat->Int)(kk:Nat->Nat)(bf:Nat->Int)(n R T K B:Nat):Prop where
 h:∀ r c,r<R->c<n->lN (S.h r c)<=K
 u:∀ r c,r<n->c<n->lN (S.u r c)<=K
 y:∀ r,r<=R->∀ j,lN (ZD S pv kk bf r j)<=B
 left:∀ r,r<R->lN (zav S pv kk bf r)<=B
 oft:T<R->lQ (zb0 S pv kk bf T)<=B
 rs:T<R->LBrs S pv T R (zb0 S pv kk bf T) B
theorem zpU{row:List RI}{g y:Nat->Int}{n k:Nat}(hk:k<=n)(hr:row=fnG n fun c=>Ys (g c)):smI (fun k=>atR row k*y k) k=smI (fun i=>g i*y i) k:=Zm fun i hi=>by
 rw[hr,zgz (by rw[Zc];omega),za2,zhz]
theorem zlT{n K:Nat}{g:Nat->Int}(hn:n<1000000)(h:∀ c,c<n->lN (g c)<=K):LR K (fnG n fun c=>Ys (g c)):=by
 refine⟨by rw[Zc];omega,fun p hp=>?_⟩;obtain⟨i,hi,rfl⟩:=zeq hp;exact h i hi
theorem zt2{A:Nat->Nat->Int}{n R r:Nat}:(pvS A n R r = -1/\(QF A n R (r+1)).2=(QF A n R r).2)\/(pvS A n R r=((QF A n R r).2:Int)/\(QF A n R (r+1)).2=(QF A n R r).2+1):=by
 have e:(QF A n R (r+1)).2=if(ZO (QF A n R r).1 r (QF A n R r).2).2 then(QF A n R r).2+1 else(QF A n R r).2:=rfl
 rw[e];unfold pvS;cases (ZO (QF A n R r).1 r (QF A n R r).2).2 with
 |true=>exact .inr ⟨rfl,rfl⟩
 |false=>exact .inl ⟨rfl,rfl⟩
theorem zju{f:Nat->Int}{C:Nat}:∀ {m:Nat},(∀ i,i<m->lN (f i)<=C)->lN (smI f m)<=C+m
 |0,_=>by show lN 0<=_;unfold lN;simp[Zi]
 |m+1,h=>by
  have ih:=zju (f:=f) (C:=C) (m:=m) fun i hi=>h i (by omega)
  have h1:=za6 (smI f m) (f m);have h2:=h m (by omega);show lN (smI f m+f m)<=_;omega
theorem zt3(S:HX)(pv:Nat->Int)(r:Nat)(q0:Rat){B K:Nat}(hB:B<=1000000000)(hK:K<=1000000000)(hr:r<S.R)(hR:S.R<90000)(hn:S.n<90000)(VI:∀ i,i<r->pv i<S.n)(Ut:lQ q0<=B)(hH:∀ j c,j<S.R->c<S.n->lN (S.h j c)<=K)(hL:LBrs S pv r S.R q0 B){c:Nat}{H:QD}(h1:H c=some (ZT S)) :
  RdC prog 132 [.one (.ptr c 0),.one (.t (eL Yn (fnG S.R pv))),litI .i64 r,.agg ((cR q0).map .t)] H (.one (.t (eL cR (fnG S.R (rsF S pv r q0 r))))):=by
 have h:=zvF S pv r q0 hB hK hr hR hn VI Ut hH hL;have hl:=zqQ (S:=S);have Xw:∀ {x},QB (lRs S) x≠none->x=1000000:=fun {x} hx=>by
  have hx:(if x=1000000 then some (ZT S)else none)≠none:=hx;by_cases e:x=1000000
  .exact e
  .rw[Qb e]at hx;exact(hx rfl).elim
 refine zeC (fun k=>c+k) h (zdQ hl.key) (fun b b' hb hb' _=>by rw[Xw hb,Xw hb']) (zb9 hl.refs) (Q2.2 ⟨by show QB (lRs S) 1000000≠none;simp[lRs,QB],Q2.2 ⟨trivial,Q2.2 ⟨trivial,Q2.2 ⟨(fun c hc=>by obtain⟨t,_,rfl⟩:=Qp.1 hc;trivial),fun x hx=>by cases hx⟩⟩⟩⟩) (fun b cs hb=>?_);obtain rfl:=Xw (x:=b) (by rw[hb];simp);have hb:some (ZT S)=some cs:=hb;cases hb
 exact h1
def FW(a:List (List RI)):Prop:=(∀ r∈a,r.length<=8/\∀ p∈r,p.2.length<=2)/\a.length<=6
instance (a:List (List RI)):Decidable (FW a):=by unfold FW;exact inferInstance
theorem zdU{z:Int}{e:Nat}(h:z.natAbs<=2^e):lN z<=e/29+1:=by
 refine zch (wbZ h ?_);have e1:2^(29*(e/29+1))<=BB^(e/29+1):=by rw[wcm];exact wcn (by decide) _
 exact wbf (Nat.pow_lt_pow_right (by decide) (by omega)) e1
theorem zjG{n R e:Nat}{S:HX}(hB:BdH n R (2^e) S)(hn:S.n=n)(hR:S.R=R):LB (e/29+1) S :=
 ⟨fun r c h1 h2=>zdU (hB.h r c (by omega) (by omega)),fun r c h1 h2=>zdU (hB.u r c (by omega) (by omega)),fun r c h1 h2=>zdU (hB.v r c (by omega) (by omega))⟩
theorem zuF{n R e r k:Nat}{S:HX}(h:BdRow n R (2^e) S r k)(hn:S.n=n)(hR:S.R=R):LBrow (e/29+1) S r k (fuE S r k):=by
 have hd:=fun t=>zc8 (S:=S) (r:=r) (k:=k) t
 refine⟨h.stop,h.go,fun t _=>zjG (h.it t) ((hd t).1.trans hn) ((hd t).2.trans hR),fun t p m _ hp hm=>?_,fun p hp=>zjG (h.piv _ p hp) ((hd _).1.trans hn) ((hd _).2.trans hR),fun p m hp hm=>?_⟩
 .have h2:=zkF (S:=(itE S r k t).swap p k) (r:=r) (k:=k) m
  exact zjG (h.red t p m hp (by omega)) (h2.1.trans ((hd t).1.trans hn)) (h2.2.trans ((hd t).2.trans hR))
 .have h2:=zkG (S:=zb2 (itE S r k (fuE S r k)) r k p) (r:=r) (k:=k) m
  have h3:=znQ (S:=(itE S r k (fuE S r k)).swap p k) (r:=r) (k:=k);exact zjG (h.lef _ p m hp hm) (h2.1.trans (h3.1.trans ((hd _).1.trans hn))) (h2.2.trans (h3.2.trans ((hd _).2.trans hR)))
theorem zin{z:Int}{k:Nat}(h:lN z<=k):z.natAbs<=2^(30*k):=by
 have h1:=zbU z;have h2:BB^lN z<=BB^k:=waT (by decide) h;have h3:BB^k<=2^(30*k):=by rw[wcm];exact wcn (by decide) _
 omega
theorem zfl.mono{K K' n R:Nat}{a:Nat->Nat->Int}(h:zfl K a n R)(hk:K<=K'):zfl K' a n R:=fun r hr=>by
 have h1:=h r hr;have up:∀ {S},LB K S->LB K' S:=fun {S} h=>⟨fun r c a b=>Qn (h.h r c a b) hk,fun r c a b=>Qn (h.u r c a b) hk,fun r c a b=>Qn (h.v r c a b) hk⟩
 exact⟨h1.stop,h1.go,fun t ht=>up (h1.it t ht),fun t p m a b c=>up (h1.red t p m a b c),fun p a=>up (h1.piv p a),fun p m a b=>up (h1.lef p m a b)⟩
theorem zpj{N:Int}{D:Nat}{e:Nat}(hN:N.natAbs<=2^e)(hD:D<=2^e):lQ ((N:Rat)/((D:Int):Rat))<=e/29+1:=by
 rw[<-wdZ];have h1:=zkk N (D:Int);have h2:=zdU hN;have h3:lN (D:Int)<=e/29+1:=zdU (by omega);omega
theorem LR.mono{L M:Nat}{r:List RI}(h:LR L r)(hM:L<=M):LR M r:=⟨h.1,fun p hp=>Qn (h.2 p hp) hM⟩
theorem zgZ(p:Nat->Prop):∀ R:Nat,∃ T,T<=R/\(∀ r,r<T->¬p r)/\(T<R->p T)
 |0=>⟨0,Qd _,fun r h=>by omega,fun h=>by omega⟩
 |R+1=>by
  obtain⟨T,h1,h2,h3⟩:=zgZ p R;by_cases c:T<R
  .exact⟨T,by omega,h2,fun _=>h3 c⟩
  .obtain rfl:T=R:=by omega
   by_cases d:p T
   .exact⟨T,by omega,h2,fun _=>d⟩
   .exact⟨T+1,by omega,fun r hr=>by
     by_cases e:r=T
     .rw[e];exact d
     .exact h2 r (by omega),fun h=>by omega⟩
theorem ztN{a:List (List RI)}{b:List RI}{n:Nat}{S:HX}{pv:Nat->Int}{kk:Nat->Nat}{T:Nat}(hp:Piv S n a.length kk pv)(hi:InvH (atW a) n a.length S)(hT:T<=a.length)(Xf:T<a.length->zcU S pv kk (atR b) T)
  {x:Nat->Int} (hx:∀ r,r<a.length->smI (fun j=>atW a r j*x j) n=atR b r):T=a.length:=by
 by_cases c:T<a.length
 .exact((zoI (b:=atR b) hp (z:=fun j=>smI (fun i=>S.v j i*x i) n) (fun r hr=>by rw[hi.vx x hr,hx r hr]) T hT).2 c (Xf c)).elim
 .omega
end Go.Proofs.YtlgjjcmljmjenaaGreat
