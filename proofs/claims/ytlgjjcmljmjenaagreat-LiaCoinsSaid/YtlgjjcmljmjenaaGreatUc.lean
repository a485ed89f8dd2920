/- At every input the call answers true and leaves its arguments as they were; no conditions. -/
import Derived.Test.YtlgjjcmljmjenaaGreatUb
import Derived.Test.YtlgjjcmljmjenaaGreatNa
import Derived.Test.YtlgjjcmljmjenaaGreatAj
set_option linter.unusedSimpArgs false
set_option linter.unusedVariables false
set_option maxRecDepth 100000
set_option maxHeartbeats 64000000
namespace Go.Proofs.YtlgjjcmljmjenaaGreat
open Go Go.Abs Go.Proofs.Tryz
theorem zx1{H:QE}{b:Nat}{M:MX}(hf:∀ i,i<M.N->H (b+100+i)=some (Q5 cJ (fnG M.n (M.g i))))(h0:H b=some [.vec (b+1) 1 0 M.R,.vec (b+2) 1 0 M.n,.vec (b+3) 1 0 M.n])
  (h1:H (b+1)=some (rowsC (b+100) 2 M.n M.R)) (h2:H (b+2)=some (rowsC (b+100+M.R) 2 M.n M.n)) (h3:H (b+3)=some (ZV (b+100+M.R+M.n) 2 M.n M.s M.n)):AtM H b M:=fun k cs h=>by
 rw[zci]at h;split at h
 .rename_i c
  have:=hf (k-100) (by omega);rw[show b+100+(k-100)=b+k by omega]at this;rw[this];exact h
 .split at h
  .rename_i e;subst e;rw[<-h];exact h0
  .split at h
   .rename_i e;subst e;rw[<-h];exact h1
   .split at h
    .rename_i e;subst e;rw[<-h];exact h2
    .split at h
     .rename_i e;subst e;rw[<-h];exact h3
     .cases h
theorem zha{α:Type}{f:α->List T}{xs:List α}{b sz len:Nat}{x:T}:(Q5 f xs).map (fC b sz len x)=Q5 f xs:=by unfold Q5;rw[wah];rfl
theorem zkn{R n:Nat}{g g':Nat->Nat->Int}(h:∀ i j,i<R->j<n->g i j=g' i j):Zz R n g=Zz R n g' :=
 Yo fun i hi=>Yo fun j hj=>by rw[h i j hi hj]
def ZZ(a:Nat->Nat->Int)(n R i:Nat):MX:=⟨n,R,fun q=>if q<R then(if q<i then a q else fun _=>0)else if q<R+n then dlt (q-R)else dlt (q-R-n),fun i=>i⟩
theorem zpx{a:Nat->Nat->Int}{n R i:Nat}:(ZZ a n R i).Ok:=fun _ h=>h
theorem zuK{a:Nat->Nat->Int}{n R:Nat}:Rep (ZZ a n R R) (zmb a n R) where
 en:=rfl
 eR:=rfl
 h:=fun r c h1 h2=>by
  have h1:r<R:=h1;show(if r<R then(if r<R then a r else fun _=>0)else _) c=a r c;rw[Qc h1,Qc h1]
 u:=fun r c h1 h2=>by
  have h1:r<n:=h1;show(if R+r<R then _ else if R+r<R+n then dlt (R+r-R)else _) c=zaU r c;rw[Qb (by omega),Qc (by omega),show R+r-R=r by omega];rfl
 v:=fun r c h1 h2=>by
  have h1:r<n:=h1;show(if R+n+r<R then _ else if R+n+r<R+n then _ else dlt (R+n+r-R-n)) c=zaU r c;rw[Qb (by omega),Qb (by omega),show R+n+r-R-n=r by omega];rfl
 ok:=zpx
 inj:=fun i j _ _ h=>h
def zbr(a:Nat->Nat->Int)(n R:Nat):Nat->MX
 |0=>ZZ a n R R
 |r+1=>zc3 (itM (zbr a n R r) r (QG a n R r).2 (fuE (QG a n R r).1 r (QG a n R r).2)) r (QG a n R r).2
theorem zos{a:Nat->Nat->Int}{n R:Nat}:∀ r,r<=R->Rep (zbr a n R r) (QG a n R r).1
 |0,_=>zuK
 |r+1,h=>by
  have ih:=zos (a:=a) (n:=n) (R:=R) r (by omega);have hd:=zdb (a:=a) (n:=n) (R:=R) r;have hk:=zfa (a:=a) (n:=n) (R:=R) r;have hn:=ih.en;have hR:=ih.eR;obtain⟨h1,h2,h3⟩:=zl4 (r:=r) (k:=(QG a n R r).2) ih (by omega) (by omega) (fuE (QG a n R r).1 r (QG a n R r).2);exact(zpW (r:=r) (k:=(QG a n R r).2) h1 (by omega) (by omega)).1
def zfu(K:Nat)(a:Nat->Nat->Int)(n R:Nat):Prop:=∀ r,r<R->LBrow K (QG a n R r).1 r (QG a n R r).2 (fuE (QG a n R r).1 r (QG a n R r).2)
def zeS(S:HX):List (Nat×List C):=[(900000,[.t (eW (Zz S.R S.n S.h)),.t (eW (Zz S.n S.n S.u)),.t (eW (Zz S.n S.n S.v))])]
def ZW(v:Int):List T:=[.lit (.int .i64 v)]
theorem zkW(v:Int):(ZW v).length=1:=rfl
attribute [go_sem] ZW
theorem zI1(k:Nat):Zh k [C.t (.lit (.int .i64 0))]=Q5 ZW (fnG k fun _=>0):=by
 have e:fnG k (fun _=>(0:Int))=List.replicate k 0:=by unfold fnG;rw[wdz];simp
 rw[e];unfold Zh
 induction k with
 |zero=>rfl
 |succ k ih =>
  have e:fnG k (fun _=>(0:Int))=List.replicate k 0:=by unfold fnG;rw[wdz];simp
  rw[wbs,wbs,wbC,zcr,ih e];rfl
theorem zqv{n:Nat}{g:Nat->Int}{i:Nat}(hi:i<n){y:Int}:(Q5 ZW (fnG n g)).take i++C.t (.lit (.int .i64 y))::(Q5 ZW (fnG n g)).drop (i+1)=Q5 ZW (fnG n (fun v=>if v=i then y else g v)):=by
 have:=zhz (f:=ZW) (sz:=1) zkW hi (g:=g) (y:=y);rw[wai]at this;rw[<-this];simp[Yq,ZW]
theorem zuL{n:Nat}{g:Nat->Int}:(Q5 ZW (fnG n g)).length=n:=by rw[zbB zkW,wai]
theorem zx2{b t:Nat}{M:MX}(h:t<b):Q9 (mkL b M) t=none:=zbg fun hm=>by have:=zfs hm;omega
theorem zx3(a:List (List RI))(n:Nat){K L:Nat}(hK:K<=4000000000)(hL:L<=10000000000)(hn:n<=40)(hR:a.length<40000)(ha:∀ row∈a,LR L row)(hb:zfu K (atW a) n a.length) :
  zbW prog 127 [.one (eW a),tI .i64 n] (Q9 (zeS (QG (atW a) n a.length a.length).1)) (.tup [.one (.ptr 900000 0),.one (.t (eL ZW (fnG a.length (pvS (atW a) n a.length))))]):=by
 obtain⟨R,KX⟩:∃ R,R=a.length:=⟨_,rfl⟩
 refine zmM QB call127 func127 rfl ntmps127 results127 (by simp) (by decide) ?_ ?_ ?_
 .refine zb8 ?_
  simp[zeS,QT,ZA]
 .refine⟨?_,trivial,trivial⟩
  show Q9 _ 900000≠none;simp[zeS,Q9]
 .have gr:=zqu R n (by omega)
  have un:=zxZ n (by omega);have SC:(eW a)=eL cMw a:=rfl;rw[<-KX]at hb ⊢;have OK:(if(0:Int)>(n:Int)then(0:Int)else(n:Int))=(n:Int):=Qb (by omega);have Ha:(if(40:Int)<(n:Int)then(40:Int)else(n:Int))=(n:Int):=by(split<;>omega)
  simp only[go_sem];refine zdQ rfl (by simp only[go_sem]<;>rfl) (by simp only[go_sem]<;>rfl) (Qd _) ?_;simp only[go_sem,OK];skip;try simp only[go_sem,Ha]
  rw[<-KX];have er:∀ q,fnG n ((ZZ (atW a) n R 0).g q)=fnG n (if q<R then(fun _=>0)else if q<R+n then dlt (q-R)else dlt (q-R-n)):=fun q=>by
   show fnG n (if q<R then(if q<0 then atW a q else fun _=>0)else _)=_;rw[Qb (wa5 _)]
  refine ziD (m:=2) (q:=0) (hk:=900001) (g:=fun _ _=>0) (rows:=fun q=>fnG n ((ZZ (atW a) n R 0).g q)) (e:=[]) (.inr rfl) gr rfl (by omega) (by decide) rfl (fun b hb=>by cases hb) (fun i hi=>by rw[er,waT,Qc hi]) ?_;simp only[go_sem,waT,wap];refine ziD (m:=2) (q:=R) (hk:=900002) (g:=dlt) (e:=[(900001,rowsC 900100 2 n R)]) (rows:=fun q=>fnG n ((ZZ (atW a) n R 0).g q)) (.inr rfl) un rfl (by omega) (by decide) rfl (fun b hb=>by simp at hb;omega) (fun i hi=>by rw[er,Qb (by omega),Qc (by omega),show R+i-R=i by omega]) ?_;simp only[go_sem];refine ziD (m:=2) (q:=R+n) (hk:=900003) (g:=dlt) (e:=[(900002,rowsC (900100+R) 2 n n),(900001,rowsC 900100 2 n R)]) (rows:=fun q=>fnG n ((ZZ (atW a) n R 0).g q)) (.inr rfl) un rfl (by omega) (by decide) rfl (fun b hb=>by simp at hb;omega) (fun i hi=>by rw[er,Qb (by omega),Qb (by omega),show R+n+i-R-n=i by omega]) ?_;simp only[go_sem];obtain⟨A,hA⟩:∃ A,A=atW a:=⟨_,rfl⟩
  rw[<-hA]at hb ⊢;have Ra:∀ i D e,QT (mkD 900000 (ZZ A n R i) D) (mkE 900000 (ZZ A n R i) e)=QT (mkD 900000 (ZZ A n R i) D) e:=fun i D e=>zbv zpx
  refine QJ (fun i:Nat=>stL 75 [(0,.one (.t (eL cMw a))),(1,litI .i64 n),(6,.one (.ptr 900000 0)),(26,.one (.t (eL cMw a))),(27,litI .i64 R),(28,litI .i64 i)] (mkE 900000 (ZZ A n R i) [])) (fun i=>i<=R) (fun i=>R-i) 0 ?_ (Qk _) ?_
  .refine GStep.trans (zdd (b:=25) (b':=900000) (by simp only[go_sem]) (by decide) (by decide)) ?_
   (refine Q6 rfl ?_ ?_ ?_ ?_<;>(try simp only[go_sem,Ra,<-KX])<;>(try simp only[Qz,Qw,Qv]))
   refine zx1 (fun q hq=>?_) ?_ ?_ ?_ ?_
   .have hq:q<R+n+n:=hq
    show _=some (Q5 cJ (fnG n ((ZZ A n R 0).g q)));rw[show 900000+100+q=900100+q from rfl];simp only[go_sem,zeK,zhT];rw[Qc hq];show some ((Q5 cJ _).map (rnC _))=_;rw[zg3]
   .simp only[go_sem]
    rfl
   .simp only[go_sem]
    rw[zhc fun i hi=>by show(if 900100+i=25 then _ else _)=_;rw[Qb (by omega)]];rfl
   .simp only[go_sem]
    rw[zhc fun i hi=>by show(if 900100+R+i=25 then _ else _)=_;rw[Qb (by omega)]];rfl
   .simp only[go_sem]
    rw[zhc fun i hi=>by show(if 900100+(R+n)+i=25 then _ else _)=_;rw[Qb (by omega)],<-wbn];rfl
  .intro i hi
   simp only[go_sem];refine QI (fun Y1=>?_) (fun YI=>?_)
   .have Yz:i<R:=by omega
    have Hb:i<a.length:=by omega
    have Y5:QP cMw a i=cMw a[i]:=Q8 Hb;have No:=ha _ (Qf Hb);have Vj:A i=atR a[i]:=by rw[hA];funext j;exact zmd Hb
    generalize a[i]=row at *
    simp only[go_sem,Y5,Y1,<-KX]
    (repeat(refine Qg (by omega) ?_))
    have n2:∀ j f,((ZZ A n R i).rw i j f).n=n:=fun _ _=>rfl
    have R2:∀ j f,((ZZ A n R i).rw i j f).R=R:=fun _ _=>rfl
    have WC:∀ j f D e,QT (mkD 900000 ((ZZ A n R i).rw i j f) D) (mkE 900000 ((ZZ A n R i).rw i j f) e)=QT (mkD 900000 ((ZZ A n R i).rw i j f) D) e:=fun j f D e=>zbv (M:=(ZZ A n R i).rw i j f) (fun _ h=>h)
    refine QJ (fun j:Nat=>stL 75 [(0,.one (.t (eL cMw a))),(1,litI .i64 n),(6,.one (.ptr 900000 0)),(26,.one (.t (eL cMw a))),(27,litI .i64 R),(28,litI .i64 i),(7,litI .i64 i),(8,.one (.t (eL cI row))),(33,litI .i64 n),(34,litI .i64 j)] (mkE 900000 ((ZZ A n R i).rw i j (A i)) [])) (fun j=>j<=n) (fun j=>n-j) 0 ?_ (Qk _) ?_
    .rw[zlL]
     (refine Q6 rfl ?_ ?_ ?_ ?_<;>(try simp only[go_sem,Ra])<;>(try simp only[Qz,Qw,Qv]))
    .intro j hj
     simp only[go_sem];refine QI (fun VK=>?_) (fun LD=>?_)
     .have XQ:j<n:=by omega
      have o1:=zp3 row j hL No (by omega);have a3:(rowsC 900100 2 n R).drop i = .vec (900100+i) 2 0 n::(rowsC 900100 2 n R).drop (i+1):=zcy Yz;have YX:=zbk (b:=900100) (sz:=2) (len:=n) (n:=R);have cl:=fun g=>zaD (n:=n) (g:=g)
      have JX:(ZZ A n R i).g i=fun _=>0:=by
       show(if i<R then(if i<i then A i else fun _=>0)else _)=_;rw[Qc Yz,Qb (wa8 _)]
      have UD:((ZZ A n R i).rw i j (A i)).g i=fun c=>if c<j then A i c else 0:=by
       show(if i=i then fun c=>if c<j then A i c else(ZZ A n R i).g i c else(ZZ A n R i).g i)=_;rw[Qc rfl,JX]
      have kf:∀ e,Q9 (mkE 900000 ((ZZ A n R i).rw i j (A i)) e) (900100+i)=some (Q5 cJ (fnG n fun c=>if c<j then A i c else 0)):=fun e=>by
       have:=zck (b:=900000) (M:=(ZZ A n R i).rw i j (A i)) (e:=e) (i:=i) (by show i<R+n+n;omega);rw[UD]at this;exact this
      have sd:=zbF (n:=n) (g:=fun c=>if c<j then A i c else 0) XQ (q:=atR row j);simp only[go_sem];refine Q3 0 rfl ?_;simp only[go_sem,n2,R2,a3,Y1,VK]
      (repeat(refine Qg (by omega) ?_))
      ((repeat(refine Q3 0 rfl ?_;simp only[go_sem,n2,R2,a3,YX,Y1,kf,cl,VK,sd]));refine Q2 (o1) rfl ?_;simp only[go_sem,kf,cl,VK,sd];(repeat(refine Q3 0 rfl ?_;simp only[go_sem,n2,R2,a3,YX,Y1,kf,cl,VK,sd])))
      (repeat(refine Qg (by omega) ?_))
      refine⟨j+1,XQ,(by show n-(j+1)<n-j;omega),?_⟩
      (refine Q6 rfl ?_ ?_ ?_ ?_<;>(try simp only[go_sem,WC,Q4 (n:=(j:Int)+1) (by omega) (by omega)])<;>(try simp only[Qz,Qw,Qv]))
      have:=zl7 (b:=900000) (M:=ZZ A n R i) (q:=i) (k:=j) (fv:=A i) (H:=Q9 (mkE 900000 ((ZZ A n R i).rw i j (A i)) [])) (by rw[za3];trivial);rw[JX,show A i j=atR row j by rw[Vj]]at this;exact this
     .obtain rfl:j=n:=by omega
      simp only[go_sem];refine⟨i+1,Yz,(by show R-(i+1)<R-i;omega),?_⟩
      (refine Q6 rfl ?_ ?_ ?_ ?_<;>(try simp only[go_sem,Ra,Q4 (n:=(i:Int)+1) (by omega) (by omega)])<;>(try simp only[Qz,Qw,Qv]))
      refine AtM.same (b:=900000) (M:=(ZZ A j R i).rw i j (A i)) (g':=(ZZ A j R (i+1)).g) (by rw[za3];trivial) fun q hq c hc=>?_
      have hc:c<j:=hc;show(if q<R then(if q<i+1 then A q else fun _=>0)else if q<R+j then dlt (q-R)else dlt (q-R-j)) c=(if q=i then fun c=>if c<j then A i c else(ZZ A j R i).g q c else if q<R then(if q<i then A q else fun _=>0)else if q<R+j then dlt (q-R)else dlt (q-R-j)) c;by_cases e:q=i
      .rw[Qc e,Qc (by omega),Qc (by omega),e,Qc hc]
      .rw[Qb e]
       by_cases e2:q<R
       .rw[Qc e2,Qc e2]
        by_cases e3:q<i
        .rw[Qc e3,Qc (by omega)]
        .rw[Qb e3,Qb (by omega)]
       .rw[Qb e2,Qb e2]
   .obtain rfl:i=R:=by omega
    have ED:∀ r,r<=i->Rep (zbr A n i r) (QG A n i r).1:=fun r h=>zos r h
    have Ui:∀ r,r<=i->(zbr A n i r).n=n/\(zbr A n i r).R=i:=fun r h=>by
     have h1:=ED r h;have h2:=zdb (a:=A) (n:=n) (R:=i) r;exact⟨h1.en.trans h2.1,h1.eR.trans h2.2⟩
    obtain⟨pv,VL⟩:∃ pv,pv=pvS A n i:=⟨_,rfl⟩
    rw[<-VL];simp only[go_sem,<-KX,QZ];refine⟨by omega,?_⟩;refine QJ (fun r:Nat=>stL 75 [(0,.one (.t (eL cMw a))),(6,.one (.ptr 900000 0)),(10,.one (.vec 53 1 0 i)),(11,litI .i64 (QG A n i r).2),(55,litI .i64 i),(56,litI .i64 r)] (mkE 900000 (zbr A n i r) [(53,Q5 ZW (fnG i fun q=>if q<r then pv q else 0))])) (fun r=>r<=i) (fun r=>i-r) 0 ?_ (Qk _) ?_
    .show Abs.GStep _ (stL 75 _ (mkE 900000 (ZZ A n i i) _))
     (refine Q6 rfl ?_ ?_ ?_ ?_<;>(try simp only[go_sem,Ra,zI1,QZ,zdY,zaC,QF])<;>(try simp only[Qz,Qw,Qx,Qv,Qt,Qy]))
     .exact .inl rfl
     .have e:fnG i (fun _=>(0:Int))=fnG i (fun q=>if q<0 then pv q else 0):=Yo fun q _=>(Qb (wa5 _)).symm
      rw[e]
    .intro r hr
     simp only[go_sem];refine QI (fun LZ=>?_) (fun SD=>?_)
     .have Kr:r<i:=by omega
      have sd1:=zqv (n:=i) (g:=fun q=>if q<r then pv q else 0) Kr (y:=-1);have cl:=fun g=>zuL (n:=i) (g:=g)
      have rp:=ED r (by omega);obtain⟨nr,Rr⟩:=Ui r (by omega);obtain⟨nr',Rr'⟩:=Ui (r+1) (by omega);have rp':=ED (r+1) Kr;have Wt:=zfa (a:=A) (n:=n) (R:=i) r;have YG:=zyO (zbr A n i r) (QG A n i r).1 r (QG A n i r).2 (K:=K) (T:=fuE (QG A n i r).1 r (QG A n i r).2) hK rp (by unfold MX.N;omega) (by omega) (by omega) (hb r Kr);have Rb:(QG A n i (r+1)).2=if(ZP (QG A n i r).1 r (QG A n i r).2).2 then(QG A n i r).2+1 else(QG A n i r).2:=rfl
      have Nt:pv r=if(ZP (QG A n i r).1 r (QG A n i r).2).2 then((QG A n i r).2:Int)else -1:=by rw[VL];rfl
      have OL:zc3 (itM (zbr A n i r) r (QG A n i r).2 (fuE (QG A n i r).1 r (QG A n i r).2)) r (QG A n i r).2=zbr A n i (r+1):=rfl;have Gm:(Yn (itE (QG A n i r).1 r (QG A n i r).2 (fuE (QG A n i r).1 r (QG A n i r).2)) r (QG A n i r).2).2=(ZP (QG A n i r).1 r (QG A n i r).2).2:=rfl;rw[OL,Gm]at YG;generalize (ZP (QG A n i r).1 r (QG A n i r).2).2=bb at YG Rb Nt;simp only[go_sem,QZ,cl,sd1,LZ]
      (repeat(refine Qg (by omega) ?_))
      refine zjf (M:=zbr A n i r) (M':=zbr A n i (r+1)) 900000 (.inr rfl) YG rp.ok (nr'.trans nr.symm) (Rr'.trans Rr.symm) rfl zq7 (by simp only[go_sem,zaC]) ?_;have Df:∀ D e,QT (mkD 900000 (zbr A n i (r+1)) D) (mkE 900000 (zbr A n i (r+1)) e)=QT (mkD 900000 (zbr A n i (r+1)) D) e:=fun D e=>zbv rp'.ok
      have UJ:Q9 (mkL 900000 (zbr A n i (r+1))) 53=none:=zx2 (by omega);simp only[go_sem];cases bb with
      |true =>
       have Rb:(QG A n i (r+1)).2=(QG A n i r).2+1:=Rb;have Nt:pv r=((QG A n i r).2:Int):=Nt;have sd2:=zqv (n:=i) (g:=fun v=>if v=r then(-1:Int)else if v<r then pv v else 0) Kr (y:=((QG A n i r).2:Int));simp only[go_sem,UJ,wdC,cl,LZ,sd2]
       (repeat(refine Qg (by omega) ?_))
       have hw:IntKind.i64.wrap (((QG A n i r).2:Int)+1)=(((QG A n i r).2+1:Nat):Int):=by rw[Q4 (by omega) (by omega)];omega
       refine⟨r+1,Kr,(by show i-(r+1)<i-r;omega),?_⟩
       (refine Q6 rfl ?_ ?_ ?_ ?_<;>(try simp only[go_sem,Df,Rb,hw,UJ,wdC,QZ,zdY,QF,Q4 (n:=(r:Int)+1) (by omega) (by omega)])<;>(try simp only[Qz,Qw,Qx,Qv]))
       rw[zaC (by omega)];refine⟨zjR,?_⟩;have e:fnG i (fun v=>if v=r then((QG A n i r).2:Int)else if v=r then(-1:Int)else if v<r then pv v else 0)=fnG i (fun q=>if q<r+1 then pv q else 0):=Yo fun v hv=>by
        by_cases e1:v=r
        .rw[Qc e1,Qc (by omega),e1,Nt]
        .rw[Qb e1,Qb e1]
         by_cases e2:v<r
         .rw[Qc e2,Qc (by omega)]
         .rw[Qb e2,Qb (by omega)]
       rw[<-e]
      |false =>
       have Rb:(QG A n i (r+1)).2=(QG A n i r).2:=Rb;have Nt:pv r = -1:=Nt;simp only[go_sem];refine⟨r+1,Kr,(by show i-(r+1)<i-r;omega),?_⟩
       (refine Q6 rfl ?_ ?_ ?_ ?_<;>(try simp only[go_sem,Df,Rb,UJ,wdC,QZ,zdY,QF,Q4 (n:=(r:Int)+1) (by omega) (by omega)])<;>(try simp only[Qz,Qw,Qx,Qv]))
       refine⟨zjR,?_⟩;have e:fnG i (fun v=>if v=r then(-1:Int)else if v<r then pv v else 0)=fnG i (fun q=>if q<r+1 then pv q else 0):=Yo fun v hv=>by
        by_cases e1:v=r
        .rw[Qc e1,Qc (by omega),e1,Nt]
        .rw[Qb e1]
         by_cases e2:v<r
         .rw[Qc e2,Qc (by omega)]
         .rw[Qb e2,Qb (by omega)]
       rw[e]
     .obtain rfl:r=i:=by omega
      simp only[go_sem];have e:fnG r (fun q=>if q<r then pv q else 0)=fnG r pv:=Yo fun q hq=>Qc hq
      rw[e];obtain⟨nM,RM⟩:=Ui r (Qd _);have rp:=ED r (Qd _);obtain⟨nS,RS⟩:=zdb (a:=A) (n:=n) (R:=r) r;generalize zbr A n r r=M at nM RM rp ⊢;generalize (QG A n r r).2=kk;generalize (QG A n r r).1=S at rp nS RS ⊢;refine⟨_,GStep.trans (zm8 (b:=900100) (sz:=2) (len:=n) (x:=fun i=>zc4 n (M.g i)) (r+n+n) ?_) (GStep.trans (zbj (b:=900001) (sz:=1) (len:=r) (cs:=Q5 (fun i=>[zc4 n (M.g (0+i))]) (List.range r)) ?_ (zmy (g:=fun i=>M.g (0+i)))) (GStep.trans (zbj (b:=900002) (sz:=1) (len:=n) (cs:=Q5 (fun i=>[zc4 n (M.g (r+i))]) (List.range n)) ?_ (zmy (g:=fun i=>M.g (r+i)))) (GStep.trans (zbj (b:=900003) (sz:=1) (len:=n) (cs:=Q5 (fun i=>[zc4 n (M.g (r+n+M.s i))]) (List.range n)) ?_ (zmy (g:=fun i=>M.g (r+n+M.s i)))) (zbj (b:=53) (sz:=1) (len:=r) (cs:=Q5 ZW (fnG r pv)) (x:=eL ZW (fnG r pv)) ?_ ?_)))),?_⟩
      .intro q hq
       refine⟨Q5 cJ (fnG n (M.g q)),?_,zt6⟩;have:=zck (b:=900000) (M:=M) (e:=[(53,Q5 ZW (fnG r pv))]) (i:=q) (by unfold MX.N;omega);rw[nM]at this;exact this
      .simp only[go_sem]
       have:=zpq (b:=900100) (n:=r+n+n) (sz:=2) (len:=n) (x:=fun i=>zc4 n (M.g i)) (k:=0) (m:=r) (by omega);simp only[waT,wap]at this;rw[nM,RM];exact this
      .simp only[go_sem]
       rw[nM,RM,zpq (by omega),zha]
      .simp only[go_sem]
       rw[nM,RM,show 900100+r+n=900100+(r+n)from wbn _ _ _,prmF (k:=r+n) (fun i hi=>by have:=rp.ok i (by omega);omega),zha,zha]
      .simp only[go_sem,QZ,zha]
      .have:=Yp (f:=ZW) (xs:=fnG r pv) zkW
       rw[Zj]at this;exact this
      .have eH:Zz r n (fun i=>M.g (0+i))=Zz S.R S.n S.h:=by
        rw[nS,RS];exact zkn fun i j hi hj=>by rw[waT];exact rp.h i j (by omega) (by omega)
       have eU:Zz n n (fun i=>M.g (r+i))=Zz S.n S.n S.u:=by
        rw[nS];exact zkn fun i j hi hj=>by have:=rp.u i j (by omega) (by omega);rw[RM]at this;exact this
       have eV:Zz n n (fun i=>M.g (r+n+M.s i))=Zz S.n S.n S.v:=by
        rw[nS];exact zkn fun i j hi hj=>by have:=rp.v i j (by omega) (by omega);rw[RM,nM]at this;exact this
       rw[eH,eU,eV];refine⟨.inr rfl,fun x hx=>?_,?_,fun b cs h=>?_⟩
       .rcases wad.1 hx with rfl|hx
        .trivial
        .obtain rfl:=Qr.1 hx;trivial
       .refine congrArg AV.tup (List.cons_eq_cons.2 ⟨?_,List.cons_eq_cons.2 ⟨?_,rfl⟩⟩)
        .show St.s _ 4=_
         simp only[go_sem]
        .show St.s _ 5=_
         simp only[go_sem]
       .unfold zeS at h
        have h:(if b=900000 then some [C.t (eW (Zz S.R S.n S.h)),C.t (eW (Zz S.n S.n S.u)),C.t (eW (Zz S.n S.n S.v))]else none)=some cs:=h;by_cases e:b=900000
        .rw[Qc e]at h
         rw[<-h,e];simp only[go_sem,nM,RM]
        .rw[Qb e]at h;cases h
structure LK(l:List (Nat×List C)):Prop where
 key:∀ k∈l.map (·.1),PIN<=k
 refs:QT (l.map (·.1)) l=true
 all:∀ σ:St,(∀ b cs,Q9 l b=some cs->σ.H b=some cs)->ZB σ l
theorem LK.all'{l:List (Nat×List C)}(h:LK l){σ:St}(hH:∀ b,PIN<=b->σ.H b=Q9 l b):ZB σ l:=h.all σ fun b cs hb=>by
 have hm:b∈l.map (·.1):=waF fun hn=>by rw[zbg hn]at hb;cases hb
 rw[hH b (h.key b hm),hb]
section
variable {l e:List (Nat×List C)} {D:List Nat} {t:Nat}
theorem LK.lo(h:LK l)(ht:t<1000000):Q9 (l++e) t=Q9 e t:=by
 rw[zc9,zbg fun hm=>by have:=h.key t hm;have:PIN=1000000:=rfl;omega];rfl
theorem LK.refs'(h:LK l):QT (l.map Prod.fst++D) (l++e)=QT (l.map Prod.fst++D) e:=by
 rw[zgV];have:QT (l.map Prod.fst++D) l=true:=by
  have h1:∀ (D:List Nat) (l0:List (Nat×List C)),QT D l0=true->∀ D',(∀ x∈D,x∈D')->QT D' l0=true:=fun D l0 h0 D' hD=>by
   induction l0 with
   |nil=>rfl
   |cons p l0 ih =>
    obtain⟨k,v⟩:=p;have h0:(v.all (ZA D)&&QT D l0)=true:=h0;rw[waj,wac]at h0;show(v.all (ZA D')&&QT D' l0)=true;rw[waj,wac];exact⟨fun c hc=>zsc hD (h0.1 c hc),ih h0.2⟩
  exact h1 _ l h.refs _ fun x hx=>wbY _ hx
 rw[this,wbD]
theorem LK.ct(h:LK l)(ht:t<1000000):(l.map Prod.fst++D).contains t=D.contains t:=by
 rw[waP,waH,waH,wao];exact⟨fun h2=>h2.elim (fun hm=>by have:=h.key t hm;have:PIN=1000000:=rfl;omega) id,.inr⟩
theorem LK.hi{b:Nat}(hb:PIN<=b)(he:∀ k∈e.map (·.1),k<PIN):Q9 (l++e) b=Q9 l b:=by
 rw[zc9,zbg (l:=e) fun hm=>by have:=he b hm;omega];cases Q9 l b<;>rfl
theorem LK.look(h:LK l):∀ b cs,Q9 l b=some cs->Q9 (l++e) b=some cs:=fun b cs hb=>by rw[zc9,hb];rfl
end
theorem zvI{f:FuncId}{ys:List AV}{H H':QE}{r:AV}(h:RdC prog f ys H r)(hH:∀ b cs,H b=some cs->H' b=some cs):RdC prog f ys H' r :=
 fun H2 h2=>h H2 fun b cs hb=>h2 b cs (hH b cs hb)
theorem zzs(l:List (Nat×List C))(hl:LK l)(F:FuncId)(caps:List (Nat×Nat))(hc:∀ p∈caps,p.1∈l.map (·.1))(n:Nat)(x y:Nat->RI){A:Nat}(hA:A<=10000000000)(hn:n<1000000)
  (hx:∀ i,i<n->(x i).2.length<=A) (hy:∀ i,i<n->(y i).2.length<=A)
  (hF:∀ i,i<n->RdC prog F (litI .i64 i::caps.map zka) (Q9 l) (.tup [.agg ((cI (x i)).map .t),.agg ((cI (y i)).map .t)])) :
  Ze prog 128 [litI .i64 n,.one (.fn F caps)] (Q9 l) (.agg ((cJ (smI (fun i=>vR (x i)*vR (y i)) n)).map .t)) (Q9 l):=by
 obtain⟨S,hS⟩:∃ S:Nat->Int,S=fun m=>smI (fun i=>vR (x i)*vR (y i)) m:=⟨_,rfl⟩
 have GA:S 0=0:=by rw[hS];rfl
 have Og:∀ m,S (m+1)=S m+vR (x m)*vR (y m):=fun m=>by rw[hS];rfl
 have Sx:smI (fun i=>vR (x i)*vR (y i)) n=S n:=by rw[hS]
 have Sy:∀ m,m<=n->lN (S m)<=2*A+m:=by
  intro m
  induction m with
  |zero=>intro _;rw[GA];unfold lN;simp[Zg]
  |succ m ih =>
   intro hm;have h1:=ih (by omega);have h2:=za8 (S m) (vR (x m)*vR (y m));have h3:=ZS (vR (x m)) (vR (y m));have h4:lN (vR (x m))<=(x m).2.length:=zav (x m).1 (x m).2;have h5:lN (vR (y m))<=(y m).2.length:=zav (y m).1 (y m).2;have h6:=hx m (by omega);have h7:=hy m (by omega);rw[Og];omega
 rw[Sx];have Nb:∀ D,caps.all (fun p=>(l.map Prod.fst++D).contains p.1)=true:=fun D=>wac.2 fun p hp=>waH.2 (wbY _ (hc p hp))
 refine zaq QB call128 func128 rfl ntmps128 results128 (by simp) (by decide) ?_ ?_ ?_ ?_ ?_
 .exact zdV hl.key
 .exact fun b=>wbq
 .exact zb8 hl.refs
 .exact fun c hc=>by obtain⟨t,_,rfl⟩:=Qp.1 hc;trivial
 .have hz:cJ 0=[.lit (.bool false),eN []]:=by show[T.lit (.bool (decide ((0:Int)<0))),eN (dig 0)]=_;rw[Zg];rfl
  have lo0:∀ t,t<1000000->Q9 l t=none:=fun t h=>by have:=hl.lo (e:=[]) h;rw[wak]at this;exact this
  have lo:=fun t e (h:t<1000000)=>hl.lo (e:=e) h
  have rf:=fun D e=>hl.refs' (D:=D) (e:=e)
  have ct:=fun t D (h:t<1000000)=>hl.ct (D:=D) h
  simp only[go_sem,lo0];refine QJ (fun i:Nat=>stL 27 [(1,.one (.fn F caps)),(4,.one (.ptr 4 0)),(5,.one (.ptr 5 0)),(10,litI .i64 n),(11,litI .i64 i)]
   (l++[(5,(cJ (S i)).map .t),(4,[.t (.lit (.bool false)),.t (.seq none [])])])) (fun i=>i<=n) (fun i=>n-i) 0 ?_ (Qk _) ?_
  .have zc:WeakL [C.t (T.lit (Value.bool false)),C.t (T.seq (some true) [])] [C.t (T.lit (Value.bool false)),C.t (T.seq none [])]:=.cons .refl (.cons .seq .nil)
   refine GStep.trans (zaA 4 (cs:=[C.t (T.lit (Value.bool false)),C.t (T.seq (some true) [])]) (by simp only[go_sem]) zc) (GStep.trans (zaA 5 (cs:=[C.t (T.lit (Value.bool false)),C.t (T.seq (some true) [])]) (by simp only[go_sem]) zc) ?_);rw[GA,hz]
   (refine Q6 rfl ?_ ?_ ?_ ?_<;>(try simp only[go_sem,lo0,rf,ct,Nb,zcc])<;>(try simp only[Qz,Qw,Qx,Qv]))
   .refine⟨hl.all' ?_,rfl⟩
    repeat(first|exact fun _ _=>rfl|refine za9 (by decide) ?_)
   .rfl
  .intro i hi
   simp only[go_sem];refine QI (fun Y1=>?_) (fun YI=>?_)
   .have Yz:i<n:=by omega
    have rd:=hF i Yz;have o1:=zms (x i).1 (x i).2 (y i).1 (y i).2 (by have:=hx i Yz;omega) (by have:=hy i Yz;omega);have Jb:=Sy i hi;have h3:=ZS (vR (x i)) (vR (y i));have h4:lN (vR (x i))<=(x i).2.length:=zav (x i).1 (x i).2;have h5:lN (vR (y i))<=(y i).2.length:=zav (y i).1 (y i).2;have h6:=hx i Yz;have h7:=hy i Yz;have o2:=zdf (S i) (vR (x i)*vR (y i)) (by omega) (by omega);rw[<-Og i]at o2;simp only[go_sem];refine zbL (.inr rfl) (zvI rd fun b cs hb=>hl.look b cs hb) ?_;simp only[go_sem,lo,cI];((repeat(refine Q3 0 rfl ?_;simp only[go_sem,lo]));refine Q2 (o1) rfl ?_;simp only[go_sem];(repeat(refine Q3 0 rfl ?_;simp only[go_sem,lo,cI]));refine Q2 (o2) rfl ?_;simp only[go_sem,lo];(repeat(refine Q3 0 rfl ?_;simp only[go_sem,lo,cI])));refine⟨i+1,Yz,(by show n-(i+1)<n-i;omega),?_⟩
    (refine Q6 rfl ?_ ?_ ?_ ?_<;>(try simp only[go_sem,lo,rf,ct,Nb,zcc,Q4 (n:=(i:Int)+1) (by omega) (by omega)])<;>(try simp only[Qz,Qw,Qx,Qv]))
    .refine hl.all' ?_
     have h1:∀ b,PIN<=b->Q9 (l++[(5,[C.t (T.lit (Value.bool (decide (S i<0)))),C.t (eN (dig (S i).natAbs))]),(4,[C.t (T.lit (Value.bool false)),C.t (T.seq none [])])]) b=Q9 l b:=fun b hb =>
      LK.hi hb fun k hk=>by simp at hk;have:PIN=1000000:=rfl;omega
     repeat(first|exact h1|refine za9 (by decide) ?_)
    .rfl
   .obtain rfl:i=n:=by omega
    simp only[go_sem,lo];refine zeJ (.inr rfl) ?_ ?_ ?_
    .simp only[go_sem,lo]
    .simp only[go_sem,lo]
    .simp only[go_sem]
     have h1:∀ b,PIN<=b->Q9 (l++[(5,[C.t (T.lit (Value.bool (decide (S i<0)))),C.t (eN (dig (S i).natAbs))]),(4,[C.t (T.lit (Value.bool false)),C.t (T.seq none [])])]) b=Q9 l b:=fun b hb =>
      LK.hi hb fun k hk=>by simp at hk;have:PIN=1000000:=rfl;omega
     exact fun b hb=>by rw[Qb (by have:PIN=1000000:=rfl;omega)];exact h1 b hb
def ZX(S:HX):List C:=[.t (eW (Zz S.R S.n S.h)),.t (eW (Zz S.n S.n S.u)),.t (eW (Zz S.n S.n S.v))]
theorem ztp{m:Nat}{σ:St}{Kp:AV->St->Prop}(a:List (List RI))(n:Nat){K L:Nat}{ys:List AV}(hm:m=1\/m=2)(hK:K<=4000000000)(hL:L<=10000000000)(hn:n<=40)(hR:a.length<40000)(ha:∀ row∈a,LR L row)(hb:zfu K (atW a) n a.length)
  (Kc:ys=[.one (.t (eW a)),litI .i64 n]) (hH:σ.H 900000=none)
  (Ma:Kp (.tup [.one (.ptr 900000 0),.one (.t (eL ZW (fnG a.length (pvS (atW a) n a.length))))]) (σ.withH (upd σ.H 900000 (some (ZX (QG (atW a) n a.length a.length).1))))):ZM prog m 127 ys σ Kp:=by
 have hX:∀ b,Q9 (zeS (QG (atW a) n a.length a.length).1) b≠none->b=900000:=fun b hb=>by
  unfold zeS at hb;have hb:(if b=900000 then some _ else none)≠none:=hb;by_cases e:b=900000
  .exact e
  .rw[Qb e]at hb;exact(hb rfl).elim
 refine zfi (H':=upd σ.H 900000 (some (ZX (QG (atW a) n a.length a.length).1))) id hm (zx3 a n hK hL hn hR ha hb) Kc (fun b hb=>?_) (fun b b' hb hb' _=>?_) (fun b cs hb=>?_) (fun x hx=>?_) ?_
 .obtain rfl:=hX b hb;exact⟨hH,by decide⟩
 .rw[hX b hb,hX b' hb']
 .obtain rfl:=hX b (by rw[hb];simp)
  show(if 900000=900000 then _ else _)=_;rw[Qc rfl];unfold zeS at hb;have hb:(if 900000=900000 then some _ else none)=some cs:=hb;rw[Qc rfl]at hb;cases hb;rfl
 .show(if x=900000 then _ else _)=_
  rw[Qb];intro e;refine hx 900000 ?_ (by rw[e];rfl);unfold zeS;show(if 900000=900000 then some _ else none)≠none;rw[Qc rfl];simp
 .exact Ma
attribute [go_sem] ZX
theorem zlz{H:QE}{a b c:AV}{x y z:TV}(h1:FzA H a x)(h2:FzA H b y)(h3:FzA H c z):FzA H (.tup [a,b,c]) (.tup [x,y,z]):=.tup rfl fun j hj Y2=>by
 match j,hj with
 |0,_=>exact h1
 |1,_=>exact h2
 |2,_=>exact h3
theorem zrj{P:Program}{r1 r2:ResultVar}{x1 x2:AV}{X:QE}{e:Exit}{σ:St}(he:e = .normal\/e = .ret)(h1:zak P σ r1)(h2:zak P σ r2)(h3:zaV P σ r1=x1)(h4:zaV P σ r2=x2)(h5:∀ b,PIN<=b->σ.H b=X b):zh2 P [r1,r2] (.tup [x1,x2]) X e σ :=
 ⟨he,fun x hx=>by
  rcases wad.1 hx with rfl|hx
  .exact h1
  .obtain rfl:=Qr.1 hx;exact h2,by show AV.tup [_,_]=_;rw[h3,h4],h5⟩
theorem zro{n:Nat}{g:Nat->Rat}{i:Nat}(hi:i<n){q:Rat}:(Q5 cR (fnG n g)).take (i*3)++C.t (.lit (.bool (decide (q.num<0))))::C.t (eN (dig q.num.natAbs))::C.t (eN (dig q.den))::(Q5 cR (fnG n g)).drop (i*3+3)=Q5 cR (fnG n (fun v=>if v=i then q else g v)):=by
 have:=zhz (f:=cR) (sz:=3) zat hi (g:=g) (y:=q);rw[<-this];simp[Yq,cR]
theorem zjo{n:Nat}{g:Nat->Rat}:(Q5 cR (fnG n g)).length=n*3:=zbB zat
def lRs(S:HX):List (Nat×List C):=[(1000000,ZX S)]
theorem zqK{S:HX}:LK (lRs S) where
 key:=fun k hk=>by unfold lRs at hk;simp at hk;have:PIN=1000000:=rfl;omega
 refs:=by simp[lRs,QT,ZA,ZX]
 all:=fun σ h=>⟨h 1000000 _ rfl,trivial⟩
theorem zoP{R n j k:Nat}{g:Nat->Nat->Int}(hj:j<R)(hk:k<n):QP cMw (Zz R n g) j=cMw (fnG n fun c=>Yw (g j c))/\QP cI (fnG n fun c=>Yw (g j c)) k=cJ (g j k):=by
 refine⟨?_,by rw[zd4 hk,zqT]⟩;unfold Zz;rw[zd4 hj]
structure LBrs(S:HX)(pv:Nat->Int)(r R:Nat)(q0:Rat)(B:Nat):Prop where
 out:∀ t,t<=r->∀ j,j<R->lQ (rsF S pv r q0 t j)<=B
 sum:∀ t,t<r->0<=pv (r-1-t)->∀ d,d<=t+1->lQ (smQ (fun d=>rsF S pv r q0 t (r-t+d)*(S.h (r-t+d) (pv (r-1-t)).toNat:Rat)) d)<=B
theorem zvr{P:Program}{n:Nat}{σ:St}:zb6 P [ResultVar.tmp n] σ=σ.s n:=rfl
theorem zvs(S:HX)(pv:Nat->Int)(r:Nat)(q0:Rat){B K:Nat}(hB:B<=1000000000)(hK:K<=1000000000)(hr:r<S.R)(hR:S.R<90000)(hn:S.n<90000)(VL:∀ i,i<r->pv i<S.n)(Kx:lQ q0<=B)(hH:∀ j c,j<S.R->c<S.n->lN (S.h j c)<=K)(hL:LBrs S pv r S.R q0 B) :
  Ze prog 132 [.one (.ptr PIN 0),.one (.t (eL ZW (fnG S.R pv))),litI .i64 r,.agg ((cR q0).map .t)] (Q9 (lRs S)) (.one (.t (eL cR (fnG S.R (rsF S pv r q0 r))))) (Q9 (lRs S)):=by
 have hl:=zqK (S:=S);obtain⟨R,KX⟩:∃ R,R=S.R:=⟨_,rfl⟩
 obtain⟨n,hne⟩:∃ n,n=S.n:=⟨_,rfl⟩
 obtain⟨H,Tg⟩:∃ H,H=S.h:=⟨_,rfl⟩
 refine zrQ QB call132 func132 rfl ntmps132 results132 (by simp) (by decide) ?_ ?_ ?_ ?_ ?_
 .exact zdV hl.key
 .exact fun b=>wbq
 .exact zb8 hl.refs
 .trivial
 .have z:Q7 prog 102 [zAg] (eQ 0):=by
   have:=(zmx false [] (by simp)).fz (tvs':=[zAg]) (.cons (Zc .t .weak) .nil);have e:((iv false []:Int):Rat)=0:=by
    have:iv false []=0:=by unfold iv;simp[val]
    rw[this];rfl
   rwa[e]at this
  have hh:=zuZ q0 (by omega);obtain⟨l,Xb⟩:∃ l,l=lRs S:=⟨_,rfl⟩
  have lo0:∀ t,t<1000000->Q9 l t=none:=fun t h=>by rw[Xb];have:=hl.lo (e:=[]) h;rw[wak]at this;exact this
  have lo:=fun t e (h:t<1000000)=>(Xb▸hl:LK l).lo (e:=e) h
  have rf:=fun D e=>(Xb▸hl:LK l).refs' (D:=D) (e:=e)
  have ct:=fun t D (h:t<1000000)=>(Xb▸hl:LK l).ct (D:=D) h
  have kp:∀ e,Q9 (l++e) 1000000=some (ZX S):=fun e=>by rw[Xb];rfl
  have ctp:∀ D,(l.map Prod.fst++D).contains 1000000=true:=fun D=>by rw[Xb];simp[lRs]
  have Vb:∀ {σ:St},(∀ b,PIN<=b->σ.H b=Q9 l b)->ZB σ l:=fun {σ} h=>(Xb▸hl:LK l).all' h
  rw[<-Xb,<-KX];rw[<-KX]at hL hR hr;simp only[go_sem,PIN,lo0]
  (repeat(refine Qg (by omega) ?_))
  refine QJ (fun i:Nat=>stL 111 [(0,.one (.ptr 1000000 0)),(1,.one (.t (eL ZW (fnG R pv)))),(2,litI .i64 r),(7,.one (.ptr 7 0)),(9,.one (.vec 20 3 0 R)),(22,litI .i64 R),(23,litI .i64 i)]
   (l++[(7,(cR q0).map .t),(20,Q5 cZ (((fnG R fun _=>(0:Rat)).take i).map some++List.replicate (R-i) none))])) (fun i=>i<=R) (fun i=>R-i) 0 ?_ (Qk _) ?_
  .rw[was,wbP,waL,wbw]
   refine GStep.trans (zaA 20 (cs:=Zh R z3) (by simp only[go_sem]<;>rfl) (ze6 _)) ?_
   (refine Q6 rfl ?_ ?_ ?_ ?_<;>(try simp only[go_sem,lo0,rf,ct,ctp,zcc,QF])<;>(try simp only[Qz,Qw,Qx,Qv]))
   all_goals first|rfl|(refine Vb ?_;repeat(first|exact fun _ _=>rfl|exact(fun b hb=>LK.hi hb fun k hk=>by simp at hk;have:PIN=1000000:=rfl;omega)|refine za9 (by decide) ?_))|skip
  .intro i hi
   simp only[go_sem];refine QI (fun Y1=>?_) (fun YI=>?_)
   .have Yz:i<R:=by omega
    have Y4:(fnG R fun _=>(0:Rat)).length=R:=Zj;have Kc:(((fnG R fun _=>(0:Rat)).take i).map some++List.replicate (R-i) none).length=R:=by simp[Zj];omega
    have Y0:=zf4 (l:=fnG R fun _=>(0:Rat)) (n:=R) (i:=i) (by rw[Y4];exact Yz) (by omega);rw[za4]at Y0;generalize ((fnG R fun _=>(0:Rat)).take i).map some++List.replicate (R-i) none=ys at *
    have Ua:=zgJ (ys:=ys) (i:=i) (by omega) (q:=0);rw[Y0]at Ua;simp only[go_sem,Y1];((repeat(refine Q3 0 rfl ?_;simp only[go_sem,Y1]));refine Q2 (z) rfl ?_;simp only[go_sem,Y1];(repeat(refine Q3 0 rfl ?_;simp only[go_sem,Y1])));simp only[go_sem,lo,zgq]
    (repeat(refine Qg (by omega) ?_))
    refine⟨i+1,Yz,(by show R-(i+1)<R-i;omega),?_⟩
    (refine Q6 rfl ?_ ?_ ?_ ?_<;>(try simp only[go_sem,lo,rf,ct,ctp,zcc,QF,Ua,Q4 (n:=(i:Int)+1) (by omega) (by omega)])<;>(try simp only[Qz,Qw,Qx,Qv]))
    all_goals first|rfl|(refine Vb ?_;repeat(first|exact fun _ _=>rfl|exact(fun b hb=>LK.hi hb fun k hk=>by simp at hk;have:PIN=1000000:=rfl;omega)|refine za9 (by decide) ?_))|skip
   .obtain rfl:i=R:=by omega
    rw[waM (by rw[Zj];exact Qd _),wbu,wbS,wak,zgD];simp only[go_sem,lo];have Xj:((r:Int)<(i:Int))=True:=Qh (by omega);have cl:=fun g=>zjo (n:=i) (g:=g)
    have sd:=zro (n:=i) (g:=fun _=>0) hr (q:=q0);have UA:IntKind.i64.wrap ((r:Int)-1)=(r:Int)-1-(0:Nat):=by rw[Q4 (by omega) (by omega)];omega
    ((repeat(refine Q3 0 rfl ?_;simp only[go_sem,lo,Xj,cl,sd]));refine Q2 (hh) rfl ?_;simp only[go_sem,lo,Xj,cl,sd];(repeat(refine Q3 0 rfl ?_;simp only[go_sem,lo,Xj,cl,sd])))
    (repeat(refine Qg (by omega) ?_))
    simp only[go_sem,UA];refine QJ (fun t:Nat=>stL 111 [(0,.one (.ptr 1000000 0)),(1,.one (.t (eL ZW (fnG i pv)))),(2,litI .i64 r),(9,.one (.vec 20 3 0 i)),(11,litI .i64 ((r:Int)-1-t))]
     (l++[(20,Q5 cR (fnG i (rsF S pv r q0 t)))])) (fun t=>t<=r) (fun t=>r-t) 0 ?_ (Qk _) ?_
    ·(refine Q6 rfl ?_ ?_ ?_ ?_<;>(try simp only[go_sem,lo,rf,ct,ctp,zcc,QF])<;>(try simp only[Qz,Qw,Qx,Qv]))
     refine⟨Vb ?_,?_⟩
     .repeat(first|exact fun _ _=>rfl|exact(fun b hb=>LK.hi hb fun k hk=>by simp at hk;have:PIN=1000000:=rfl;omega)|refine za9 (by decide) ?_)
     .rfl
    .intro t ht
     simp only[go_sem];refine QI (fun PP=>?_) (fun Ru=>?_)
     .have WO:t<r:=by omega
      obtain⟨q,hq⟩:∃ q,q=r-1-t:=⟨_,rfl⟩
      have Hc:(r:Int)-1-(t:Int)=(q:Int):=by omega
      have MS:q<i:=by omega
      have ep:QP ZW (fnG i pv) q=ZW (pv q):=zd4 MS;have Wg:((q:Int)<(i:Int))=True:=Qh (by omega);have Vf:IntKind.i64.wrap ((q:Int)-1)=(r:Int)-1-((t+1:Nat):Int):=by rw[Q4 (by omega) (by omega)];omega
      have Y0:rsF S pv r q0 (t+1)=if pv q<0 then rsF S pv r q0 t else fun j=>if j=q then -(smQ (fun d=>rsF S pv r q0 t (r-t+d)*(S.h (r-t+d) (pv q).toNat:Rat)) (t+1)*(S.h q (pv q).toNat:Rat)⁻¹)else rsF S pv r q0 t j:=by rw[hq];rfl
      rw[Hc];simp only[go_sem,ep,Wg]
      (repeat(refine Qg (by omega) ?_))
      refine QI (fun U0=>?_) (fun Lk=>?_)
      .simp only[go_sem]
       rw[Qc U0]at Y0;refine⟨t+1,WO,(by show r-(t+1)<r-t;omega),?_⟩
       (refine Q6 rfl ?_ ?_ ?_ ?_<;>(try simp only[go_sem,lo,rf,ct,ctp,zcc,QF,Y0,Vf])<;>(try simp only[Qz,Qw,Qx,Qv]))
       all_goals first|rfl|(refine Vb ?_;repeat(first|exact fun _ _=>rfl|exact(fun b hb=>LK.hi hb fun k hk=>by simp at hk;have:PIN=1000000:=rfl;omega)|refine za9 (by decide) ?_))|skip
      .simp only[go_sem]
       rw[Qb Lk]at Y0;obtain⟨kn,XS⟩:∃ kn:Nat,(kn:Int)=pv q:=⟨(pv q).toNat,by omega⟩
       rw[<-XS]at Y0 ⊢;have Kb:r-t=q+1:=by omega
       have Fe:((kn:Int)).toNat=kn:=wbB kn;have Us:=hL.sum t WO (by rw[<-hq];omega);rw[<-hq,<-XS,Fe,Kb]at Us;rw[Fe,Kb]at Y0;have Ff:kn<S.n:=by have:=VL q (by omega);omega
       have Xv:((kn:Int)<(S.n:Int))=True:=Qh (by omega);obtain⟨ou,Fg⟩:∃ ou,ou=rsF S pv r q0 t:=⟨_,rfl⟩
       have Gz:∀ j,j<i->lQ (ou j)<=B:=fun j hj=>by rw[Fg];exact hL.out t (by omega) j hj
       rw[<-Fg]at Us Y0 ⊢;obtain⟨f,hf⟩:∃ f:Nat->Rat,f=fun d=>ou (q+1+d)*(S.h (q+1+d) kn:Rat):=⟨_,rfl⟩
       rw[<-hf]at Us Y0;have XM:IntKind.i64.wrap ((q:Int)+1)=((q+1+0:Nat):Int):=by rw[Q4 (by omega) (by omega)];omega
       ((repeat(refine Q3 0 rfl ?_;simp only[go_sem,lo]));refine Q2 (z) rfl ?_;simp only[go_sem,lo];(repeat(refine Q3 0 rfl ?_;simp only[go_sem,lo])));simp only[go_sem,XM];refine QJ (fun d:Nat=>stL 111 [(0,.one (.ptr 1000000 0)),(1,.one (.t (eL ZW (fnG i pv)))),(2,litI .i64 r),(9,.one (.vec 20 3 0 i)),(11,litI .i64 q),(12,litI .i64 kn),(13,.one (.ptr 13 0)),(14,litI .i64 (q+1+d:Nat))]
        (l++[(20,Q5 cR (fnG i ou)),(13,(cR (smQ f d)).map .t)])) (fun d=>d<=t+1) (fun d=>t+1-d) 0 ?_ (Qk _) ?_
       .have Kl:smQ f 0=0:=rfl
        rw[Kl]
        (refine Q6 rfl ?_ ?_ ?_ ?_<;>(try simp only[go_sem,lo,rf,ct,ctp,zcc,QF])<;>(try simp only[Qz,Qw,Qx,Qv]))
        all_goals first|rfl|(refine Vb ?_;repeat(first|exact fun _ _=>rfl|exact(fun b hb=>LK.hi hb fun k hk=>by simp at hk;have:PIN=1000000:=rfl;omega)|refine za9 (by decide) ?_))|skip
       .intro d hd
        simp only[go_sem];refine QI (fun Xb=>?_) (fun Wo=>?_)
        .obtain⟨j,hj⟩:∃ j,j=q+1+d:=⟨_,rfl⟩
         have JD:j<i:=by omega
         have Jc:((j:Int)<(i:Int))=True:=Qh (by omega);have RZ:((j:Int)<(S.R:Int))=True:=Qh (by omega);obtain⟨e1,e2⟩:=zoP (R:=S.R) (n:=S.n) (g:=S.h) (j:=j) (k:=kn) (by omega) Ff;have Jb:=Gz j JD;have WY:=hH j kn (by omega) Ff;have PQ:=zfo (S.h j kn);have Dm:=zfn (ou j) (S.h j kn:Rat);have PS:=Us d hd;have o1:=zgr (S.h j kn) (by omega);have o2:=zgt (ou j) (S.h j kn:Rat) (by omega) (by omega);have o3:=zgE (smQ f d) (ou j*(S.h j kn:Rat)) (by omega) (by omega);have Ns:smQ f d+ou j*(S.h j kn:Rat)=smQ f (d+1):=by rw[hj];show _=smQ f d+f d;rw[hf]
         rw[Ns]at o3;have ca:=Z4 (f:=cR) (sz:=3) (g:=ou) (n:=i) zat JD;have cl:=fun g=>zjo (n:=i) (g:=g)
         have JJ:((q+1+(d+1):Nat):Int)=(j:Int)+1:=by omega
         have Ui:d+1<=t+1:=by omega
         rw[<-hj];simp only[go_sem];refine Q3 0 rfl ?_;simp only[go_sem,lo,kp,ZX,e1,e2,Jc,RZ,Xv,ca,zag,ZO]
         (repeat(refine Qg (by omega) ?_))
         ((repeat(refine Q3 0 rfl ?_;simp only[go_sem,lo,kp,ZX,e1,e2,Jc,RZ,Xv,ca,cl,zag,ZO]));refine Q2 (o1) rfl ?_;simp only[go_sem];(repeat(refine Q3 0 rfl ?_;simp only[go_sem,lo,kp,ZX,e1,e2,Jc,RZ,Xv,ca,cl,zag,ZO]));refine Q2 (o2) rfl ?_;simp only[go_sem];(repeat(refine Q3 0 rfl ?_;simp only[go_sem,lo,kp,ZX,e1,e2,Jc,RZ,Xv,ca,cl,zag,ZO]));refine Q2 (o3) rfl ?_;simp only[go_sem,lo];(repeat(refine Q3 0 rfl ?_;simp only[go_sem,lo,kp,ZX,e1,e2,Jc,RZ,Xv,ca,cl,zag,ZO])));refine⟨d+1,Ui,(by show t+1-(d+1)<t+1-d;omega),?_⟩
         (refine Q6 rfl ?_ ?_ ?_ ?_<;>(try simp only[go_sem,lo,rf,ct,ctp,zcc,QF,JJ,Q4 (n:=(j:Int)+1) (by omega) (by omega)])<;>(try simp only[Qz,Qw,Qx,Qv]))
         all_goals first|rfl|(refine Vb ?_;repeat(first|exact fun _ _=>rfl|exact(fun b hb=>LK.hi hb fun k hk=>by simp at hk;have:PIN=1000000:=rfl;omega)|refine za9 (by decide) ?_))|skip
        .obtain rfl:d=t+1:=by omega
         obtain⟨e1,e2⟩:=zoP (R:=S.R) (n:=S.n) (g:=S.h) (j:=q) (k:=kn) (by omega) Ff;have JE:((q:Int)<(S.R:Int))=True:=Qh (by omega);have WY:=hH q kn (by omega) Ff;have PQ:=zfo (S.h q kn);have PS:=Us (t+1) (Qd _);have Th:=zjy (S.h q kn:Rat);have Ti:=zfn (smQ f (t+1)) (S.h q kn:Rat)⁻¹;have o1:=zgr (S.h q kn) (by omega);have o2:=zl9 (S.h q kn:Rat) (by omega);have o3:=zgt (smQ f (t+1)) (S.h q kn:Rat)⁻¹ (by omega) (by omega);have o4:=zhw (smQ f (t+1)*(S.h q kn:Rat)⁻¹) (by omega);have cl:=fun g=>zjo (n:=i) (g:=g)
         have sd:=zro (n:=i) (g:=ou) MS (q:=-(smQ f (t+1)*(S.h q kn:Rat)⁻¹));simp only[go_sem];refine Q3 0 rfl ?_;simp only[go_sem,lo,kp,ZX,e1,e2,JE,Xv,zag,ZO]
         (repeat(refine Qg (by omega) ?_))
         ((repeat(refine Q3 0 rfl ?_;simp only[go_sem,lo,kp,ZX,e1,e2,Wg,JE,Xv,cl,zag,ZO,sd]));refine Q2 (o1) rfl ?_;simp only[go_sem];(repeat(refine Q3 0 rfl ?_;simp only[go_sem,lo,kp,ZX,e1,e2,Wg,JE,Xv,cl,zag,ZO,sd]));refine Q2 (o2) rfl ?_;simp only[go_sem];(repeat(refine Q3 0 rfl ?_;simp only[go_sem,lo,kp,ZX,e1,e2,Wg,JE,Xv,cl,zag,ZO,sd]));refine Q2 (o3) rfl ?_;simp only[go_sem];(repeat(refine Q3 0 rfl ?_;simp only[go_sem,lo,kp,ZX,e1,e2,Wg,JE,Xv,cl,zag,ZO,sd]));refine Q2 (o4) rfl ?_;simp only[go_sem,lo,Wg,cl,sd];(repeat(refine Q3 0 rfl ?_;simp only[go_sem,lo,kp,ZX,e1,e2,Wg,JE,Xv,cl,zag,ZO,sd])))
         (repeat(refine Qg (by omega) ?_))
         refine⟨t+1,WO,(by show r-(t+1)<r-t;omega),?_⟩
         (refine Q6 rfl ?_ ?_ ?_ ?_<;>(try simp only[go_sem,lo,rf,ct,ctp,zcc,QF,Y0,Vf])<;>(try simp only[Qz,Qw,Qx,Qv]))
         all_goals first|rfl|(refine Vb ?_;repeat(first|exact fun _ _=>rfl|exact(fun b hb=>LK.hi hb fun k hk=>by simp at hk;have:PIN=1000000:=rfl;omega)|refine za9 (by decide) ?_))|skip
     .obtain rfl:t=r:=by omega
      obtain⟨ou,Fg⟩:∃ ou,ou=rsF S pv t q0 t:=⟨_,rfl⟩
      rw[<-Fg];simp only[go_sem,lo]
      (repeat(refine Qg (by omega) ?_))
      refine QJ (fun m:Nat=>stL 111 [(15,.one (.vec 96 3 0 i)),(97,.one (.vec 20 3 0 i)),(98,litI .i64 i),(99,litI .i64 m)]
       (l++[(20,Q5 cR (fnG i ou)),(96,Q5 cZ (((fnG i ou).take m).map some++List.replicate (i-m) none))])) (fun m=>m<=i) (fun m=>i-m) 0 ?_ (Qk _) ?_
      .rw[was,wbP,waL,wbw]
       refine GStep.trans (zaA 96 (cs:=Zh i z3) (by simp only[go_sem]<;>rfl) (ze6 _)) ?_
       (refine Q6 rfl ?_ ?_ ?_ ?_<;>(try simp only[go_sem,lo,rf,ct,zcc,QF])<;>(try simp only[Qz,Qw,Qx,Qv]))
       all_goals first|rfl|(refine Vb ?_;repeat(first|exact fun _ _=>rfl|exact(fun b hb=>LK.hi hb fun k hk=>by simp at hk;have:PIN=1000000:=rfl;omega)|refine za9 (by decide) ?_))|skip
      .intro m hm
       simp only[go_sem];refine QI (fun KW=>?_) (fun UM=>?_)
       .have Xp:m<i:=by omega
        have Kc:(((fnG i ou).take m).map some++List.replicate (i-m) none).length=i:=by simp[Zj];omega
        have Y0:=zf4 (l:=fnG i ou) (n:=i) (i:=m) (by rw[Zj];exact Xp) (by rw[Zj];exact Qd _);rw[za4]at Y0;generalize ((fnG i ou).take m).map some++List.replicate (i-m) none=ys at *
        have Ua:=zgJ (ys:=ys) (i:=m) (by omega) (q:=ou m);rw[Y0]at Ua;have ca:=Z4 (f:=cR) (sz:=3) (g:=ou) (n:=i) zat Xp;have cl:=fun g=>zjo (n:=i) (g:=g)
        have o1:=zjj (ou m);simp only[go_sem,lo,ca,KW]
        (repeat(refine Qg (by omega) ?_))
        ((repeat(refine Q3 0 rfl ?_;simp only[go_sem,lo,ca,cl,KW]));refine Q2 (o1) rfl ?_;simp only[go_sem,lo,KW];(repeat(refine Q3 0 rfl ?_;simp only[go_sem,lo,ca,cl,KW])));simp only[go_sem,zgq]
        (repeat(refine Qg (by omega) ?_))
        refine⟨m+1,Xp,(by show i-(m+1)<i-m;omega),?_⟩
        (refine Q6 rfl ?_ ?_ ?_ ?_<;>(try simp only[go_sem,lo,rf,ct,zcc,QF,Ua,Q4 (n:=(m:Int)+1) (by omega) (by omega)])<;>(try simp only[Qz,Qw,Qx,Qv]))
        all_goals first|rfl|(refine Vb ?_;repeat(first|exact fun _ _=>rfl|exact(fun b hb=>LK.hi hb fun k hk=>by simp at hk;have:PIN=1000000:=rfl;omega)|refine za9 (by decide) ?_))|skip
       .obtain rfl:m=i:=by omega
        rw[waM (by rw[Zj];exact Qd _),wbu,wbS,wak,zgD];simp only[go_sem];refine⟨_,zbj (b:=96) (sz:=3) (len:=m) (cs:=Q5 cR (fnG m ou)) (x:=eL cR (fnG m ou)) ?_ ?_,.inr rfl,(fun x hx=>by obtain rfl:=Qr.1 hx;trivial),?_,fun b hb=>?_⟩
        .simp only[go_sem,lo]
        .have:=Yp (f:=cR) (xs:=fnG m ou) zat
         rw[Zj]at this;exact this
        .rw[zvr]
         simp only[go_sem]
        .have hb':1000000<=b:=hb
         have e1:Q9 (l++[(20,Q5 cR (fnG m ou)),(96,Q5 cR (fnG m ou))]) b=Q9 l b:=LK.hi hb fun k hk=>by simp at hk;have:PIN=1000000:=rfl;omega
         have e2:(Q9 l b).map (fun cs=>cs.map (fC 96 3 m (eL cR (fnG m ou))))=Q9 l b:=by
          rw[Xb];show(if b=1000000 then some (ZX S)else none).map _=if b=1000000 then some (ZX S)else none
          by_cases e:b=1000000
          .rw[Qc e];rfl
          .rw[Qb e];rfl
         simp only[go_sem];rw[Qb (by omega),e1];exact e2
def lB(row:List RI)(m:Nat)(y:Nat->Int):List (Nat×List C):=[(1000000,[.t (eL cI row)]),(1000001,[.vec 1000002 2 0 m]),(1000002,Q5 cJ (fnG m y))]
theorem zmB{row:List RI}{m:Nat}{y:Nat->Int}:LK (lB row m y) where
 key:=fun k hk=>by unfold lB at hk;simp at hk;have:PIN=1000000:=rfl;omega
 refs:=by simp[lB,QT,ZA,QF]
 all:=fun σ h=>⟨h 1000000 _ rfl,h 1000001 _ rfl,h 1000002 _ rfl,trivial⟩
theorem zgL{row:List RI}{m x:Nat}{y:Nat->Int}(h:Q9 (lB row m y) x≠none):x=1000000\/x=1000001\/x=1000002:=by
 have h:(if x=1000000 then some _ else if x=1000001 then some _ else if x=1000002 then some _ else none)≠none:=h;by_cases e1:x=1000000
 .exact .inl e1
 .rw[Qb e1]at h
  by_cases e2:x=1000001
  .exact .inr (.inl e2)
  .rw[Qb e2]at h
   by_cases e3:x=1000002
   .exact .inr (.inr e3)
   .rw[Qb e3]at h;exact(h rfl).elim
theorem zyH(row:List RI)(m:Nat)(y:Nat->Int)(k:Nat)(hk:k<row.length)(Kh:k<m)(YX:row.length<1000000000)(hm:m<1000000000) :
  Ze prog 129 [litI .i64 k,.one (.ptr PIN 0),.one (.ptr (PIN+1) 0)] (Q9 (lB row m y)) (.tup [.agg ((cI row[k]).map .t),.agg ((cI (Yw (y k))).map .t)]) (Q9 (lB row m y)):=by
 have hl:=zmB (row:=row) (m:=m) (y:=y);refine zaq QB call129 func129 rfl ntmps129 results129 (by simp) (by decide) ?_ ?_ ?_ ?_ ?_
 .exact zdV hl.key
 .exact fun b=>wbq
 .exact zb8 hl.refs
 .exact⟨fun c hc=>by obtain⟨t,_,rfl⟩:=Qp.1 hc;trivial,fun c hc=>by obtain⟨t,_,rfl⟩:=Qp.1 hc;trivial,trivial⟩
 .have e1:QP cI row k=cI row[k]:=Q8 hk
  have ca:=Z4 (f:=cJ) (sz:=2) (g:=y) (n:=m) Yj Kh;have cl:=fun g=>zaD (n:=m) (g:=g)
  have Gb:((k:Int)<(row.length:Int))=True:=Qh (by omega);have Gc:((k:Int)<(m:Int))=True:=Qh (by omega);generalize row[k]=p at *
  simp only[go_sem,PIN,lB];refine zde 10 rfl ?_;refine QK.take' 1 rfl (by decide +kernel) (by decide +kernel) (by decide +kernel) (by simp only[go_sem]) (zdD rfl) ?_;refine QK.take' 5 rfl (by decide +kernel) (by decide +kernel) (by decide +kernel) (by simp only[go_sem]) (zdD rfl) ?_
  repeat' (first|(refine QK.done (by decide +kernel) ?_)|(refine QK.take' 2 rfl (by decide +kernel) (by decide +kernel) (by decide +kernel) (by simp only[go_sem]) (zif (t:=23) (n:=row.length) rfl (by simp only[go_sem]) (by simp only[go_sem]) (by simp only[go_sem]) (by simp only[go_sem,ZO]<;>(try exact fun _ _=>rfl)<;>simp[ZO]) (by simp only[go_sem]) (by simp only[go_sem,Gb]<;>omega)) ?_)|(refine QK.take' 6 rfl (by decide +kernel) (by decide +kernel) (by decide +kernel) (by simp only[go_sem]) (zif (t:=23) (n:=m) rfl (by simp only[go_sem]) (by simp only[go_sem]) (by simp only[go_sem]) (by simp only[go_sem]<;>(try exact fun _ _=>rfl)<;>simp[ZO]) (by simp only[go_sem]) (by simp only[go_sem,Gc]<;>omega)) ?_)|(refine QK.two' 0 4 (by decide +kernel) rfl rfl (by simp only[go_sem]) (by simp only[go_sem]) ?_ ?_)|(refine QK.two' 0 7 (by decide +kernel) rfl rfl (by simp only[go_sem]) (by simp only[go_sem]) ?_ ?_)|(refine QK.two' 3 4 (by decide +kernel) rfl rfl (by simp only[go_sem]) (by simp only[go_sem]) ?_ ?_)|(refine QK.two' 3 7 (by decide +kernel) rfl rfl (by simp only[go_sem]) (by simp only[go_sem]) ?_ ?_)|(refine QK.two' 4 8 (by decide +kernel) rfl rfl (by simp only[go_sem]) (by simp only[go_sem]) ?_ ?_)|(refine QK.two' 7 8 (by decide +kernel) rfl rfl (by simp only[go_sem]) (by simp only[go_sem]) ?_ ?_)|(refine QK.one' 9 (by decide +kernel) rfl (by simp only[go_sem]) ?_)|(refine QK.one' 0 (by decide +kernel) rfl (by simp only[go_sem]) ?_)|(refine QK.one' 3 (by decide +kernel) rfl (by simp only[go_sem]) ?_)|(refine QK.one' 8 (by decide +kernel) rfl (by simp only[go_sem]) ?_)|(refine QK.one' 4 (by decide +kernel) rfl (by simp only[go_sem]) ?_)|(refine QK.one' 7 (by decide +kernel) rfl (by simp only[go_sem]) ?_)|(simp only[go_sem,e1,ca,cI];(repeat(refine Qg (by omega) ?_))))
  all_goals(
   refine zrj (.inr rfl) ?_ ?_ ?_ ?_ ?_
   .simp only[go_sem]
   .simp only[go_sem]
   .simp only[go_sem]
   .simp only[go_sem]
    rfl
   .repeat(first|exact fun _ _=>rfl|refine za9 (by decide) ?_))
theorem zyI(row:List RI)(m:Nat)(y:Nat->Int)(k:Nat)(hk:k<row.length)(Kh:k<m)(YX:row.length<1000000000)(hm:m<1000000000) :
  Ze prog 134 [litI .i64 k,.one (.ptr PIN 0),.one (.ptr (PIN+1) 0)] (Q9 (lB row m y)) (.tup [.agg ((cI row[k]).map .t),.agg ((cI (Yw (y k))).map .t)]) (Q9 (lB row m y)):=by
 have hl:=zmB (row:=row) (m:=m) (y:=y);refine zaq QB call134 func134 rfl ntmps134 results134 (by simp) (by decide) ?_ ?_ ?_ ?_ ?_
 .exact zdV hl.key
 .exact fun b=>wbq
 .exact zb8 hl.refs
 .exact⟨fun c hc=>by obtain⟨t,_,rfl⟩:=Qp.1 hc;trivial,fun c hc=>by obtain⟨t,_,rfl⟩:=Qp.1 hc;trivial,trivial⟩
 .have e1:QP cI row k=cI row[k]:=Q8 hk
  have ca:=Z4 (f:=cJ) (sz:=2) (g:=y) (n:=m) Yj Kh;have cl:=fun g=>zaD (n:=m) (g:=g)
  have Gb:((k:Int)<(row.length:Int))=True:=Qh (by omega);have Gc:((k:Int)<(m:Int))=True:=Qh (by omega);generalize row[k]=p at *
  simp only[go_sem,PIN,lB];refine zde 10 rfl ?_;refine QK.take' 1 rfl (by decide +kernel) (by decide +kernel) (by decide +kernel) (by simp only[go_sem]) (zdD rfl) ?_;refine QK.take' 5 rfl (by decide +kernel) (by decide +kernel) (by decide +kernel) (by simp only[go_sem]) (zdD rfl) ?_
  repeat' (first|(refine QK.done (by decide +kernel) ?_)|(refine QK.take' 2 rfl (by decide +kernel) (by decide +kernel) (by decide +kernel) (by simp only[go_sem]) (zif (t:=23) (n:=row.length) rfl (by simp only[go_sem]) (by simp only[go_sem]) (by simp only[go_sem]) (by simp only[go_sem,ZO]<;>(try exact fun _ _=>rfl)<;>simp[ZO]) (by simp only[go_sem]) (by simp only[go_sem,Gb]<;>omega)) ?_)|(refine QK.take' 6 rfl (by decide +kernel) (by decide +kernel) (by decide +kernel) (by simp only[go_sem]) (zif (t:=23) (n:=m) rfl (by simp only[go_sem]) (by simp only[go_sem]) (by simp only[go_sem]) (by simp only[go_sem]<;>(try exact fun _ _=>rfl)<;>simp[ZO]) (by simp only[go_sem]) (by simp only[go_sem,Gc]<;>omega)) ?_)|(refine QK.two' 0 4 (by decide +kernel) rfl rfl (by simp only[go_sem]) (by simp only[go_sem]) ?_ ?_)|(refine QK.two' 0 7 (by decide +kernel) rfl rfl (by simp only[go_sem]) (by simp only[go_sem]) ?_ ?_)|(refine QK.two' 3 4 (by decide +kernel) rfl rfl (by simp only[go_sem]) (by simp only[go_sem]) ?_ ?_)|(refine QK.two' 3 7 (by decide +kernel) rfl rfl (by simp only[go_sem]) (by simp only[go_sem]) ?_ ?_)|(refine QK.two' 4 8 (by decide +kernel) rfl rfl (by simp only[go_sem]) (by simp only[go_sem]) ?_ ?_)|(refine QK.two' 7 8 (by decide +kernel) rfl rfl (by simp only[go_sem]) (by simp only[go_sem]) ?_ ?_)|(refine QK.one' 9 (by decide +kernel) rfl (by simp only[go_sem]) ?_)|(refine QK.one' 0 (by decide +kernel) rfl (by simp only[go_sem]) ?_)|(refine QK.one' 3 (by decide +kernel) rfl (by simp only[go_sem]) ?_)|(refine QK.one' 8 (by decide +kernel) rfl (by simp only[go_sem]) ?_)|(refine QK.one' 4 (by decide +kernel) rfl (by simp only[go_sem]) ?_)|(refine QK.one' 7 (by decide +kernel) rfl (by simp only[go_sem]) ?_)|(simp only[go_sem,e1,ca,cI];(repeat(refine Qg (by omega) ?_))))
  all_goals(
   refine zrj (.inr rfl) ?_ ?_ ?_ ?_ ?_
   .simp only[go_sem]
   .simp only[go_sem]
   .simp only[go_sem]
   .simp only[go_sem]
    rfl
   .repeat(first|exact fun _ _=>rfl|refine za9 (by decide) ?_))
theorem zxt{row:List RI}{m:Nat}{y:Nat->Int}:∀ p∈[(PIN,0),(PIN+1,0)],p.1∈(lB row m y).map (·.1):=fun p hp=>by
 unfold lB;rcases wad.1 hp with rfl|hp
 .simp[PIN]
 .obtain rfl:=Qr.1 hp;simp[PIN]
theorem zxu{row:List RI}{m:Nat}{y:Nat->Int}{n:Int}{F:FuncId}:∀ x∈[litI .i64 n,AV.one (.fn F [(PIN,0),(PIN+1,0)])],inA (Q9 (lB row m y)) x :=
 Qs.2 ⟨trivial,Qs.2 ⟨(fun p hp=>by
  unfold lB;rcases wad.1 hp with rfl|hp
  .show Q9 _ 1000000≠none;simp[Q9]
  .obtain rfl:=Qr.1 hp
   show Q9 _ 1000001≠none;simp[Q9]),fun x hx=>by cases hx⟩⟩
theorem zqf{F:FuncId}(row:List RI)(m:Nat)(y:Nat->Int)(q:Nat){L:Nat}(hL:L<=10000000000)(hr:LR L row)(hy:∀ j,j<m->lN (y j)<=L)(hq:q<=row.length)(Fs:q<=m)(hm:m<1000000)
  (hF:∀ k (hk:k<row.length),k<m->Ze prog F [litI .i64 k,.one (.ptr PIN 0),.one (.ptr (PIN+1) 0)] (Q9 (lB row m y)) (.tup [.agg ((cI row[k]).map .t),.agg ((cI (Yw (y k))).map .t)]) (Q9 (lB row m y)))
  {c1 c2 c3:Nat} (HG:c1≠c2) (HH:c1≠c3) (On:c2≠c3) {H:QE} (h1:H c1=some [.t (eL cI row)]) (h2:H c2=some [.vec c3 2 0 m]) (h3:H c3=some (Q5 cJ (fnG m y))) :
  RdC prog 128 [litI .i64 q,.one (.fn F [(c1,0),(c2,0)])] H (.agg ((cJ (smI (fun k=>atR row k*y k) q)).map .t)):=by
 have hl:=zmB (row:=row) (m:=m) (y:=y)
 have hs:=zzs (lB row m y) hl F [(PIN,0),(PIN+1,0)] zxt q (fun k=>(row[k]?).getD (false,[])) (fun k=>Yw (y k)) (A:=L) hL (by omega) (fun k hk=>by
    rw[wab (by omega)];exact hr.2 _ (Qf _)) (fun k hk=>hy k (by omega)) (fun k hk=>?_)
 .have e:smI (fun i=>vR ((row[i]?).getD (false,[]))*vR (Yw (y i))) q=smI (fun k=>atR row k*y k) q:=Zp fun k hk=>by
   rw[zhG,wab (by omega),zgF (by omega)];rfl
  rw[e]at hs;refine zeE (fun k=>if k=0 then c1 else if k=1 then c2 else c3) hs (zdV hl.key) (fun b b' hb hb' e=>?_) (zb8 hl.refs) zxu (fun b cs hb=>?_)
  .have k0:thI (fun k=>if k=0 then c1 else if k=1 then c2 else c3) 1000000=c1:=rfl
   have k1:thI (fun k=>if k=0 then c1 else if k=1 then c2 else c3) 1000001=c2:=rfl;have k2:thI (fun k=>if k=0 then c1 else if k=1 then c2 else c3) 1000002=c3:=rfl;rcases zgL hb with rfl|rfl|rfl<;>rcases zgL hb' with rfl|rfl|rfl
   .rfl
   .rw[k0,k1]at e;exact(HG e).elim
   .rw[k0,k2]at e;exact(HH e).elim
   .rw[k0,k1]at e;exact(HG e.symm).elim
   .rfl
   .rw[k1,k2]at e;exact(On e).elim
   .rw[k0,k2]at e;exact(HH e.symm).elim
   .rw[k1,k2]at e;exact(On e.symm).elim
   .rfl
  .rcases zgL (x:=b) (by rw[hb];simp)with rfl|rfl|rfl
   .have hb:some [C.t (eL cI row)]=some cs:=hb
    cases hb;exact h1
   .have hb:some [C.vec 1000002 2 0 m]=some cs:=hb
    cases hb;exact h2
   .have hb:some (Q5 cJ (fnG m y))=some cs:=hb
    cases hb
    rw[zkl];exact h3
 .have h:=hF k (by omega) (by omega)
  rw[wab (by omega)];refine zeE (fun k=>PIN+k) h (zdV hl.key) (fun b b' hb hb' e=>?_) (zb8 hl.refs) (Qs.2 ⟨trivial,Qs.2 ⟨by unfold lB;show Q9 _ 1000000≠none;simp[Q9],Qs.2 ⟨by unfold lB;show Q9 _ 1000001≠none;simp[Q9],fun x hx=>by cases hx⟩⟩⟩) (fun b cs hb=>?_)
  .rcases zgL hb with rfl|rfl|rfl<;>rcases zgL hb' with rfl|rfl|rfl<;>first|rfl|(exact Qn e (by decide))
  .rcases zgL (x:=b) (by rw[hb];simp)with rfl|rfl|rfl
   .have hb:some [C.t (eL cI row)]=some cs:=hb
    cases hb;rfl
   .have hb:some [C.vec 1000002 2 0 m]=some cs:=hb
    cases hb;rfl
   .have hb:some (Q5 cJ (fnG m y))=some cs:=hb
    cases hb
    rw[zkl];rfl
structure LBsol(S:HX)(pv:Nat->Int)(kk:Nat->Nat)(bf:Nat->Int)(n R T K B:Nat):Prop where
 h:∀ r c,r<R->c<n->lN (S.h r c)<=K
 u:∀ r c,r<n->c<n->lN (S.u r c)<=K
 y:∀ r,r<=R->∀ j,lN (ZD S pv kk bf r j)<=B
 left:∀ r,r<R->lN (zaw S pv kk bf r)<=B
 oft:T<R->lQ (zbZ S pv kk bf T)<=B
 rs:T<R->LBrs S pv T R (zbZ S pv kk bf T) B
theorem zpU{row:List RI}{g y:Nat->Int}{n k:Nat}(hk:k<=n)(hr:row=fnG n fun c=>Yw (g c)):smI (fun k=>atR row k*y k) k=smI (fun i=>g i*y i) k:=Zp fun i hi=>by
 rw[hr,zgF (by rw[Zj];omega),za4,zhG]
theorem zl2{n K:Nat}{g:Nat->Int}(hn:n<1000000)(h:∀ c,c<n->lN (g c)<=K):LR K (fnG n fun c=>Yw (g c)):=by
 refine⟨by rw[Zj];omega,fun p hp=>?_⟩;obtain⟨i,hi,rfl⟩:=zfb hp;exact h i hi
theorem ztY{A:Nat->Nat->Int}{n R r:Nat}:(pvS A n R r = -1/\(QG A n R (r+1)).2=(QG A n R r).2)\/(pvS A n R r=((QG A n R r).2:Int)/\(QG A n R (r+1)).2=(QG A n R r).2+1):=by
 have e:(QG A n R (r+1)).2=if(ZP (QG A n R r).1 r (QG A n R r).2).2 then(QG A n R r).2+1 else(QG A n R r).2:=rfl
 rw[e];unfold pvS;cases (ZP (QG A n R r).1 r (QG A n R r).2).2 with
 |true=>exact .inr ⟨rfl,rfl⟩
 |false=>exact .inl ⟨rfl,rfl⟩
theorem zjH{f:Nat->Int}{C:Nat}:∀ {m:Nat},(∀ i,i<m->lN (f i)<=C)->lN (smI f m)<=C+m
 |0,_=>by show lN 0<=_;unfold lN;simp[Zg]
 |m+1,h=>by
  have ih:=zjH (f:=f) (C:=C) (m:=m) fun i hi=>h i (by omega)
  have h1:=za8 (smI f m) (f m);have h2:=h m (by omega);show lN (smI f m+f m)<=_;omega
theorem ztZ(S:HX)(pv:Nat->Int)(r:Nat)(q0:Rat){B K:Nat}(hB:B<=1000000000)(hK:K<=1000000000)(hr:r<S.R)(hR:S.R<90000)(hn:S.n<90000)(VL:∀ i,i<r->pv i<S.n)(Kx:lQ q0<=B)(hH:∀ j c,j<S.R->c<S.n->lN (S.h j c)<=K)(hL:LBrs S pv r S.R q0 B){c:Nat}{H:QE}(h1:H c=some (ZX S)) :
  RdC prog 132 [.one (.ptr c 0),.one (.t (eL ZW (fnG S.R pv))),litI .i64 r,.agg ((cR q0).map .t)] H (.one (.t (eL cR (fnG S.R (rsF S pv r q0 r))))):=by
 have h:=zvs S pv r q0 hB hK hr hR hn VL Kx hH hL;have hl:=zqK (S:=S);have Xw:∀ {x},Q9 (lRs S) x≠none->x=1000000:=fun {x} hx=>by
  have hx:(if x=1000000 then some (ZX S)else none)≠none:=hx;by_cases e:x=1000000
  .exact e
  .rw[Qb e]at hx;exact(hx rfl).elim
 refine zeE (fun k=>c+k) h (zdV hl.key) (fun b b' hb hb' _=>by rw[Xw hb,Xw hb']) (zb8 hl.refs) (Qs.2 ⟨by show Q9 (lRs S) 1000000≠none;simp[lRs,Q9],Qs.2 ⟨trivial,Qs.2 ⟨trivial,Qs.2 ⟨(fun c hc=>by obtain⟨t,_,rfl⟩:=Qp.1 hc;trivial),fun x hx=>by cases hx⟩⟩⟩⟩) (fun b cs hb=>?_);obtain rfl:=Xw (x:=b) (by rw[hb];simp);have hb:some (ZX S)=some cs:=hb;cases hb
 exact h1
def FW(a:List (List RI)):Prop:=(∀ r∈a,r.length<=8/\∀ p∈r,p.2.length<=2)/\a.length<=6
instance (a:List (List RI)):Decidable (FW a):=by unfold FW;exact inferInstance
theorem zdZ{z:Int}{e:Nat}(h:z.natAbs<=2^e):lN z<=e/29+1:=by
 refine zbS (wbV h ?_);have e1:2^(29*(e/29+1))<=BB^(e/29+1):=by rw[wcr];exact wcs (by decide) _
 exact wbf (Nat.pow_lt_pow_right (by decide) (by omega)) e1
theorem zjT{n R e:Nat}{S:HX}(hB:BdH n R (2^e) S)(hn:S.n=n)(hR:S.R=R):LB (e/29+1) S :=
 ⟨fun r c h1 h2=>zdZ (hB.h r c (by omega) (by omega)),fun r c h1 h2=>zdZ (hB.u r c (by omega) (by omega)),fun r c h1 h2=>zdZ (hB.v r c (by omega) (by omega))⟩
theorem zuz{n R e r k:Nat}{S:HX}(h:BdRow n R (2^e) S r k)(hn:S.n=n)(hR:S.R=R):LBrow (e/29+1) S r k (fuE S r k):=by
 have hd:=fun t=>zdg (S:=S) (r:=r) (k:=k) t
 refine⟨h.stop,h.go,fun t _=>zjT (h.it t) ((hd t).1.trans hn) ((hd t).2.trans hR),fun t p m _ hp hm=>?_,fun p hp=>zjT (h.piv _ p hp) ((hd _).1.trans hn) ((hd _).2.trans hR),fun p m hp hm=>?_⟩
 .have h2:=zkQ (S:=(itE S r k t).swap p k) (r:=r) (k:=k) m
  exact zjT (h.red t p m hp (by omega)) (h2.1.trans ((hd t).1.trans hn)) (h2.2.trans ((hd t).2.trans hR))
 .have h2:=zkR (S:=zb1 (itE S r k (fuE S r k)) r k p) (r:=r) (k:=k) m
  have h3:=zn4 (S:=(itE S r k (fuE S r k)).swap p k) (r:=r) (k:=k);exact zjT (h.lef _ p m hp hm) (h2.1.trans (h3.1.trans ((hd _).1.trans hn))) (h2.2.trans (h3.2.trans ((hd _).2.trans hR)))
theorem zix{z:Int}{k:Nat}(h:lN z<=k):z.natAbs<=2^(30*k):=by
 have h1:=zbo z;have h2:BB^lN z<=BB^k:=waW (by decide) h;have h3:BB^k<=2^(30*k):=by rw[wcr];exact wcs (by decide) _
 omega
theorem zfu.mono{K K' n R:Nat}{a:Nat->Nat->Int}(h:zfu K a n R)(hk:K<=K'):zfu K' a n R:=fun r hr=>by
 have h1:=h r hr;have up:∀ {S},LB K S->LB K' S:=fun {S} h=>⟨fun r c a b=>Qo (h.h r c a b) hk,fun r c a b=>Qo (h.u r c a b) hk,fun r c a b=>Qo (h.v r c a b) hk⟩
 exact⟨h1.stop,h1.go,fun t ht=>up (h1.it t ht),fun t p m a b c=>up (h1.red t p m a b c),fun p a=>up (h1.piv p a),fun p m a b=>up (h1.lef p m a b)⟩
theorem zpp{N:Int}{D:Nat}{e:Nat}(hN:N.natAbs<=2^e)(hD:D<=2^e):lQ ((N:Rat)/((D:Int):Rat))<=e/29+1:=by
 rw[<-wd5];have h1:=zkw N (D:Int);have h2:=zdZ hN;have h3:lN (D:Int)<=e/29+1:=zdZ (by omega);omega
theorem LR.mono{L M:Nat}{r:List RI}(h:LR L r)(hM:L<=M):LR M r:=⟨h.1,fun p hp=>Qo (h.2 p hp) hM⟩
end Go.Proofs.YtlgjjcmljmjenaaGreat
