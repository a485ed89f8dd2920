/- At every input the call answers true and leaves its arguments as they were; no conditions. -/
import Derived.Test.YtlgjjcmljmjenaaGreatNa
set_option linter.unusedSimpArgs false
set_option linter.unusedVariables false
set_option maxRecDepth 100000
namespace Go.Abs
structure Piv(S:HX)(n R:Nat)(kk:Nat->Nat)(pv:Nat->Int):Prop where
 shp:Shp S.h R n kk
 row:∀ r,r<R->(pv r<0/\kk (r+1)=kk r/\(kk r<n->S.h r (kk r)=0))\/(pv r=(kk r:Int)/\kk r<n/\0<S.h r (kk r)/\kk (r+1)=kk r+1)
section
variable {S:HX} {n R:Nat} {kk:Nat->Nat} {pv:Nat->Int} {b:Nat->Int}
theorem zxg(h:Piv S n R kk pv){r:Nat}(hr:r<R)(y:Nat->Int):smI (fun j=>S.h r j*y j) n=smI (fun j=>S.h r j*y j) (kk r)+(if kk r<n then S.h r (kk r)*y (kk r)else 0):=by
 have hk:=h.shp.le r (by omega);by_cases c:kk r<n
 .rw[Qc c]
  have e1:smI (fun j=>S.h r j*y j) n=smI (fun j=>S.h r j*y j) (kk r+1):=by
   have:∀ m,kk r+1<=m->m<=n->smI (fun j=>S.h r j*y j) m=smI (fun j=>S.h r j*y j) (kk r+1):=by
    intro m
    induction m with
    |zero=>intro h1 _;omega
    |succ m ih =>
     intro h1 h2;by_cases e:m=kk r
     .rw[e]
     .rw[smI,ih (by omega) (by omega)]
      show _+S.h r m*y m=_;rw[h.shp.right r m hr (by omega) (by omega),wbc,wa9]
   exact this n (by omega) (Qd _)
  rw[e1,smI]
 .rw[Qb c,wa9,show kk r=n by omega]
theorem zoI(h:Piv S n R kk pv){z:Nat->Int}(hz:∀ r,r<R->smI (fun j=>S.h r j*z j) n=b r):∀ r,r<=R->(∀ j,j<kk r->ZD S pv kk b r j=z j)/\(r<R->¬zcU S pv kk b r):=by
 have V4:∀ r,r<R->(∀ j,j<kk r->ZD S pv kk b r j=z j)->zav S pv kk b r=if kk r<n then S.h r (kk r)*z (kk r)else 0:=fun r hr hy=>by
  have h1:=hz r hr;rw[zxg h hr]at h1;have h2:smI (fun i=>S.h r i*ZD S pv kk b r i) (kk r)=smI (fun j=>S.h r j*z j) (kk r):=Zm fun j hj=>by rw[hy j hj]
  show b r-smI (fun i=>S.h r i*ZD S pv kk b r i) (kk r)=_;rw[h2];omega
 have WI:∀ r,r<R->(∀ j,j<kk r->ZD S pv kk b r j=z j)->¬zcU S pv kk b r:=fun r hr hy=>by
  have hl:=V4 r hr hy;unfold zcU;rcases h.row r hr with⟨h1,h2,h3⟩|⟨h1,h2,h3,h4⟩
  .rw[Qc h1,hl]
   intro hne;refine hne ?_;split
   .rename_i c;rw[h3 c,wbc]
   .rfl
  .rw[Qb (by omega),hl,Qc h2]
   intro hne;exact hne (Int.mul_fmod_right _ _)
 intro r
 induction r with
 |zero =>
  intro _;have h0:∀ j,j<kk 0->ZD S pv kk b 0 j=z j:=fun j hj=>by rw[h.shp.k0]at hj;omega
  exact⟨h0,fun h=>WI 0 h h0⟩
 |succ r ih =>
  intro hr;obtain⟨ih,_⟩:=ih (by omega);have hl:=V4 r (by omega) ih;have h3:∀ j,j<kk (r+1)->ZD S pv kk b (r+1) j=z j:=fun j hj=>by
   show(if pv r<0 then ZD S pv kk b r else fun j=>if j=kk r then Int.fdiv (zav S pv kk b r) (S.h r (kk r))else ZD S pv kk b r j) j=_;rcases h.row r (by omega)with⟨h1,h2,_⟩|⟨h1,h2,h3,h4⟩
   .rw[Qc h1];exact ih j (by omega)
   .rw[Qb (by omega)]
    show(if j=kk r then _ else ZD S pv kk b r j)=_;by_cases c:j=kk r
    .rw[Qc c,hl,Qc h2,c]
     exact wcJ _ (by omega)
    .rw[Qb c];exact ih j (by omega)
  exact⟨h3,fun h=>WI (r+1) h h3⟩
end
section
variable {a:Nat->Nat->Int} {n R:Nat} {S:HX}
theorem InvH.vx(h:InvH a n R S)(x:Nat->Int){r:Nat}(hr:r<R):smI (fun j=>S.h r j*smI (fun i=>S.v j i*x i) n) n=smI (fun i=>a r i*x i) n:=by
 have hc:=h.cols';have e:∀ j,j<n->S.h r j*smI (fun i=>S.v j i*x i) n=smI (fun i=>S.h r j*S.v j i*x i) n:=fun j _=>by
  rw[<-Yp];exact Zm fun i _=>(wbP _ _ _).symm
 rw[Zm e,ze2];refine Zm fun i hi=>?_
 have e2:a r i=smI (fun j=>S.h r j*S.v j i) n:=by
  have e:∀ j,j<n->S.h r j*S.v j i=smI (fun l=>a r l*S.u l j*S.v j i) n:=fun j hj=>by
   rw[h.hau r hr j hj,waI,<-Yp];exact Zm fun l _=>waI _ _
  rw[Zm e,ze2];have e2:∀ l,l<n->smI (fun j=>a r l*S.u l j*S.v j i) n=a r l*(if l=i then 1 else 0):=fun l hl=>by
   rw[<-h.uv l i hl hi,<-Yp];exact Zm fun j _=>wbP _ _ _
  rw[Zm e2,zca (f:=fun l=>a r l*if l=i then 1 else 0) hi fun j _ hj=>by rw[Qb hj,waF],Qc rfl,wbh]
 rw[e2,waI,<-Yp];exact Zm fun j _=>waI _ _
end
def eeG(e0:Nat):Nat->Nat
 |0=>e0
 |k+1=>20*eeG e0 k+11
theorem zow{e0 i:Nat}:∀ {j:Nat},i<=j->eeG e0 i<=eeG e0 j
 |0,h=>by
  have:i=0:=by omega
  rw[this];exact Qd _
 |j+1,h=>by
  by_cases e:i=j+1
  .rw[e];exact Qd _
  .have:=zow (e0:=e0) (i:=i) (j:=j) (by omega)
   show eeG e0 i<=20*eeG e0 j+11;omega
theorem ztU{n R r k e0:Nat}{S:HX}(en:S.n=n)(hr:r<R)(hk:k<=n)(hn:n<=6)(hB:BdH n R (2^eeG e0 k) S):BdRow n R (2^eeG e0 (if(ZO S r k).2 then k+1 else k)) S r k/\BdH n R (2^eeG e0 (if(ZO S r k).2 then k+1 else k)) (ZO S r k).1:=by
 cases hh:(hdE S r k).1 with
 |none =>
  obtain⟨h0,h1,h2⟩:=zoq hh;rw[h2];exact⟨zpK hB hh,hB⟩
 |some p =>
  have Hs:=ze0 hh;have XQ:k<n:=by omega
  have h1:1<=2^eeG e0 k:=waZ (by decide);have hD:(2*n+1)*(2*n+1)<=2^8:=by
   have:(2*n+1)*(2*n+1)<=13*13:=waB (by omega) (by omega);omega
  have YE:=zyo (b:=8) en hr XQ h1 rfl hD rfl hB;have YN:=zw0 (n:=n) (e:=eeG e0 k) hn rfl;have Jg:BdRow n R (2^eeG e0 (k+1)) S r k:=YE.mono YN;have Py:S.h r p≠0:=by
   have Xe:=zbK (S.h r) k (S.n-k);change match (hdE S r k).1 with|none=>_|some p=>_ at Xe
   rw[hh]at Xe;exact Xe.2.2.2.1
  obtain⟨c,Ux,Kb,Rh⟩:=zrt en XQ Jg.it hr ⟨p,Hs.1,by omega,Py⟩ (fuE S r k);have Du:(ZO S r k).2=true:=by
   unfold ZO Yj;split
   .rename_i hd
    have Xe:=zbK ((itE S r k (fuE S r k)).h r) k ((itE S r k (fuE S r k)).n-k);change match (hdE (itE S r k (fuE S r k)) r k).1 with|none=>_|some p=>_ at Xe
    rw[hd]at Xe;have HF:=(zc8 (S:=S) (r:=r) (k:=k) (fuE S r k)).1;exact(Rh (Xe.2 c Ux (by omega))).elim
   .rfl
  rw[Du];exact⟨Jg,Jg.out⟩
theorem ziT{a:Nat->Nat->Int}{n R e0:Nat}(hn:n<=6)(ha:∀ r c,r<R->c<n->(a r c).natAbs<=2^e0):∀ r,r<=R->BdH n R (2^eeG e0 (QF a n R r).2) (QF a n R r).1/\∀ q,q<r->BdRow n R (2^eeG e0 (QF a n R r).2) (QF a n R q).1 q (QF a n R q).2
 |0,_=>by
  refine⟨⟨ha,fun i j _ _=>?_,fun i j _ _=>?_⟩,fun q hq=>by omega⟩
  .show(zaS i j).natAbs<=2^e0;have:=waZ (n:=e0) (show 0<2 by decide);unfold zaS;split<;>simp<;>omega
  .show(zaS i j).natAbs<=2^e0;have:=waZ (n:=e0) (show 0<2 by decide);unfold zaS;split<;>simp<;>omega
 |r+1,h=>by
  obtain⟨ih1,ih2⟩:=ziT hn ha r (by omega);have hd:=zc4 (a:=a) (n:=n) (R:=R) r;have hk:=ze4 (a:=a) (n:=n) (R:=R) r;obtain⟨h1,h2⟩:=ztU (r:=r) hd.1 (by omega) hk.1 hn ih1;refine⟨h2,fun q hq=>?_⟩;by_cases e:q=r
  .rw[e];exact h1
  .exact(ih2 q (by omega)).mono (waT (by decide) (zow (zmP r)))
theorem zg0{a:Nat->Nat->Int}{n R e0:Nat}(hn:n<=6)(ha:∀ r c,r<R->c<n->(a r c).natAbs<=2^e0){r:Nat}(hr:r<R):∀ r',r<r'->r'<=R ->
  ((QF a n R (r+1)).2=(QF a n R r).2/\∀ c,(QF a n R r).2<=c->c<n->(QF a n R r').1.h r c=0) \/
  ((QF a n R (r+1)).2=(QF a n R r).2+1/\(QF a n R r).2<n/\0<(QF a n R r').1.h r (QF a n R r).2/\(∀ c,(QF a n R r).2<c->c<n->(QF a n R r').1.h r c=0) /\
   ∀ c,c<(QF a n R r).2->0<=(QF a n R r').1.h r c/\(QF a n R r').1.h r c<(QF a n R r').1.h r (QF a n R r).2):=by
 have KA:=ze4 (a:=a) (n:=n) (R:=R) r;have HF:=zc4 (a:=a) (n:=n) (R:=R) r;have YJ:=(ziT hn ha (r+1) (by omega)).2 r (by omega);have e1:(QF a n R (r+1)).1=(ZO (QF a n R r).1 r (QF a n R r).2).1:=rfl;have e2:(QF a n R (r+1)).2=if(ZO (QF a n R r).1 r (QF a n R r).2).2 then(QF a n R r).2+1 else(QF a n R r).2:=rfl
 have SY:=zc8 (S:=(QF a n R r).1) (r:=r) (k:=(QF a n R r).2) (fuE (QF a n R r).1 r (QF a n R r).2);have YE:=zu4 YJ.stop (by omega);change ((ZO (QF a n R r).1 r (QF a n R r).2).2=false/\∀ c,_->_->(ZO (QF a n R r).1 r (QF a n R r).2).1.h r c=0)\/((ZO (QF a n R r).1 r (QF a n R r).2).2=true/\_/\0<(ZO (QF a n R r).1 r (QF a n R r).2).1.h r _/\_/\_)at YE;have keep:∀ d,r+1+d<=R->∀ c,(QF a n R (r+1+d)).1.h r c=(QF a n R (r+1)).1.h r c:=by
  have hz:∀ c,(QF a n R (r+1)).2<=c->c<n->(QF a n R (r+1)).1.h r c=0:=fun c hc XC=>by
   rw[e1];rw[e2]at hc;rcases YE with⟨h1,h2⟩|⟨h1,_,_,h2,_⟩
   .rw[h1]at hc;exact h2 c hc (by omega)
   .rw[h1]at hc;exact h2 c (by have:(QF a n R r).2+1<=c:=hc;omega) (by omega)
  have Dv:∀ d,(QF a n R (r+1)).2<=(QF a n R (r+1+d)).2:=fun d=>by
   induction d with
   |zero=>exact Qd _
   |succ d ih =>
    exact Qn ih (zmP (r+1+d))
  intro d
  induction d with
  |zero=>intro _ c;rfl
  |succ d ih =>
   intro hd c;have ih:=ih (by omega);have Db:=zc4 (a:=a) (n:=n) (R:=R) (r+1+d);show(ZO (QF a n R (r+1+d)).1 (r+1+d) (QF a n R (r+1+d)).2).1.h r c=_;rw[ztA (fun c hc XC=>by rw[ih];exact hz c (Qn (Dv d) hc) (by omega)),ih]
 intro r' Jr HG;obtain⟨d,rfl⟩:∃ d,r'=r+1+d:=⟨r'-(r+1),by omega⟩
 have kp:=keep d HG;rw[e2];rcases YE with⟨h1,h2⟩|⟨h1,h2,h3,h4,h5⟩
 .left
  rw[h1];exact⟨rfl,fun c hc XC=>by rw[kp,e1];exact h2 c hc (by omega)⟩
 .right
  rw[h1];refine⟨rfl,by omega,by rw[kp,e1];exact h3,fun c hc XC=>by rw[kp,e1];exact h4 c hc (by omega),fun c hc=>?_⟩;rw[kp,kp,e1];exact h5 c hc
theorem fr1{s D p:Rat}(hD:D≠0)(hp:p≠0) : -(s*D⁻¹*p⁻¹) = -s*(D*p)⁻¹:=by grind
theorem fr2{a D p:Rat}(hD:D≠0)(hp:p≠0):a*D⁻¹=a*p*(D*p)⁻¹:=by grind
theorem zoB{S:HX}{pv:Nat->Int}{kk:Nat->Nat}{r M:Nat}{q0:Rat}{H A0 D0:Nat}(hr:r<=M)(XQ:∀ i,i<r->(pv i<0/\kk (i+1)=kk i)\/(¬pv i<0/\kk (i+1)=kk i+1))(X5:1<=H)(hH:∀ i j,i<r->j<=r->0<=pv i->(S.h j (pv i).toNat).natAbs<=H)(hp:∀ i,i<r->0<=pv i->0<S.h i (pv i).toNat)
  (hA:q0.num.natAbs<=A0) (hD:q0.den<=D0):∀ t,t<=r->kk (r-t)<=kk r/\∃ (D:Nat) (A:Nat->Int),0<D/\D<=D0*H^(kk r-kk (r-t))/\(∀ j,rsF S pv r q0 t j=(A j:Rat)/((D:Int):Rat))/\∀ j,(A j).natAbs<=A0*((M+1)*H)^(kk r-kk (r-t))
 |0,_=>by
  refine⟨Qd _,q0.den,fun j=>if j=r then q0.num else 0,wbN q0.den_nz,by rw[wbI,wbl,wdx,wah];exact hD,fun j=>?_,fun j=>?_⟩
  .show(if j=r then q0 else 0)=(((if j=r then q0.num else 0:Int)):Rat)/_
   by_cases e:j=r
   .rw[Qc e,Qc e]
    rw[<-wdZ,Rat.num_divInt_den]
   .rw[Qb e,Qb e,show((0:Int):Rat)=0 from rfl,wbU,wbC]
  .rw[wbI,wbl,wdx,wah]
   show(if j=r then q0.num else 0).natAbs<=A0;split
   .exact hA
   .simp
 |t+1,ht=>by
  obtain⟨EV,D,A,h1,h2,h3,h4⟩:=zoB hr XQ X5 hH hp hA hD t (by omega);have YN:=XQ (r-1-t) (by omega);have WV:r-1-t+1=r-t:=by omega
  have HV:r-(t+1)=r-1-t:=by omega
  rw[WV]at YN;rw[HV];have e:rsF S pv r q0 (t+1)=if pv (r-1-t)<0 then rsF S pv r q0 t else fun j=>if j=r-1-t then -(smQ (fun d=>rsF S pv r q0 t (r-t+d)*(S.h (r-t+d) (pv (r-1-t)).toNat:Rat)) (t+1)*(S.h (r-1-t) (pv (r-1-t)).toNat:Rat)⁻¹)else rsF S pv r q0 t j:=rfl
  rw[e];obtain⟨cp,JL⟩:∃ cp,cp=kk r-kk (r-t):=⟨_,rfl⟩
  rw[<-JL]at h2 h4;have MD:A0*((M+1)*H)^(cp+1)=(M+1)*(H*(A0*((M+1)*H)^cp)):=by rw[waP,<-wae,Qt,wae]
  obtain⟨AA,ME⟩:∃ AA,AA=A0*((M+1)*H)^cp:=⟨_,rfl⟩
  rw[<-ME]at h4 MD;have Ta:1*AA<=H*AA:=wak _ X5;by_cases c:pv (r-1-t)<0
  .rw[Qc c]
   have ek:kk (r-t)=kk (r-1-t):=by rcases YN with⟨_,h⟩|⟨h,_⟩<;>omega
   rw[<-ek,<-JL];exact⟨EV,D,A,h1,h2,h3,fun j=>by rw[<-ME];exact h4 j⟩
  .rw[Qb c]
   have ek:kk (r-t)=kk (r-1-t)+1:=by rcases YN with⟨h,_⟩|⟨_,h⟩<;>omega
   have ec:kk r-kk (r-1-t)=cp+1:=by omega
   rw[ec];refine⟨by omega,?_⟩;obtain⟨i,hi⟩:∃ i,i=r-1-t:=⟨_,rfl⟩
   rw[<-hi]at c ⊢;obtain⟨k,hk⟩:∃ k,k=(pv i).toNat:=⟨_,rfl⟩
   have HW:=hp i (by omega) (by omega);have HY:=fun j hj=>hH i j (by omega) hj (by omega)
   rw[<-hk]at HW HY ⊢;have Tc:=HY i (by omega);obtain⟨p,Dz⟩:∃ p:Nat,(p:Int)=S.h i k:=⟨(S.h i k).toNat,by omega⟩
   have KJ:0<p:=by omega
   have HZ:p<=H:=by omega
   rw[<-Dz];obtain⟨s,hs⟩:∃ s,s=smI (fun d=>A (r-t+d)*S.h (r-t+d) k) (t+1):=⟨_,rfl⟩
   have Ul:smQ (fun d=>rsF S pv r q0 t (r-t+d)*(S.h (r-t+d) k:Rat)) (t+1)=(s:Rat)/((D:Int):Rat):=by
    rw[hs,<-zo0];exact Yd fun d _=>by rw[h3]
   have Gi:s.natAbs<=M*(H*AA):=by
    rw[hs];have:=zgb (f:=fun d=>A (r-t+d)*S.h (r-t+d) k) (K:=H*AA) (n:=t+1) fun d hd=>by
     rw[wbb,Qt];exact waB (HY _ (by omega)) (h4 _)
    exact Qn this (wak _ (by omega))
   have DH:((D:Int):Rat)≠0:=by
    intro h0;have:(D:Int)=0:=by exact_mod_cast h0
    omega
   have DI:((p:Int):Rat)≠0:=by
    intro h0;have:(p:Int)=0:=by exact_mod_cast h0
    omega
   have PM:(((D*p:Nat):Int):Rat)=((D:Int):Rat)*((p:Int):Rat):=by
    rw[wbY,wbV]
   refine⟨D*p,fun j=>if j=i then -s else A j*(p:Int),wcI h1 KJ,?_,fun j=>?_,fun j=>?_⟩
   .rw[waP,<-wae];exact waB h2 HZ
   .rw[PM]
    show(if j=i then _ else rsF S pv r q0 t j)=(((if j=i then -s else A j*(p:Int)):Int):Rat)/_;by_cases ej:j=i
    .rw[Qc ej,Qc ej,Ul,wdJ,wbU,wbU]
     exact fr1 DH DI
    .rw[Qb ej,Qb ej,h3,wbV,wbU,wbU]
     exact fr2 DH DI
   .rw[MD]
    show(if j=i then -s else A j*(p:Int)).natAbs<=_;split
    .rw[wcv,war];omega
    .rw[wbb]
     have h5:(A j).natAbs*(p:Int).natAbs<=AA*H:=waB (h4 j) (by omega);rw[Qt AA H]at h5;rw[war];omega
theorem ztD{a:Nat->Nat->Int}{n R e0:Nat}(hn:n<=6)(ha:∀ r c,r<R->c<n->(a r c).natAbs<=2^e0):Shp (QF a n R R).1.h R n (fun i=>(QF a n R i).2) where
 k0:=rfl
 right:=fun i j hi hj hjn=>by
  rcases zg0 hn ha hi R hi (Qd _)with⟨_,h⟩|⟨_,_,_,h,_⟩
  .exact h j (Nat.le_of_lt hj) hjn
  .exact h j hj hjn
 out:=fun i hi hk=>by
  rcases zg0 hn ha hi R hi (Qd _)with⟨h,_⟩|⟨_,h,_⟩
  .exact h
  .exact Qo hk (by omega)
 nonneg:=fun i hi hk=>by
  rcases zg0 hn ha hi R hi (Qd _)with⟨_,h⟩|⟨_,_,h,_⟩
  .rw[h _ (Qd _) hk];exact wbi _
  .exact Int.le_of_lt h
 zero:=fun i hi hk h0=>by
  rcases zg0 hn ha hi R hi (Qd _)with⟨h,_⟩|⟨_,_,h,_⟩
  .exact h
  .rw[h0]at h;exact Qo h (by decide)
 piv:=fun i hi hk h0=>by
  rcases zg0 hn ha hi R hi (Qd _)with⟨_,h⟩|⟨h,_,_,_,h2⟩
  .rw[h _ (Qd _) hk]at h0;exact Qo h0 (by decide)
  .exact⟨h,h2⟩
theorem zns{a:Nat->Nat->Int}{n R e0:Nat}(hn:n<=6)(ha:∀ r c,r<R->c<n->(a r c).natAbs<=2^e0):Piv (QF a n R R).1 n R (fun r=>(QF a n R r).2) (pvS a n R):=by
 have hs:=ztD hn ha;refine⟨hs,fun r hr=>?_⟩;have e:(QF a n R (r+1)).2=if(ZO (QF a n R r).1 r (QF a n R r).2).2 then(QF a n R r).2+1 else(QF a n R r).2:=rfl
 by_cases c:(ZO (QF a n R r).1 r (QF a n R r).2).2=true
 .rw[Qc c]at e
  have hp:pvS a n R r=((QF a n R r).2:Int):=by unfold pvS;rw[Qc c]
  rcases hs.step hr with⟨h1,_⟩|⟨h1,h2,h3⟩
  .have h1:(QF a n R (r+1)).2=(QF a n R r).2:=h1
   omega
  .exact .inr ⟨hp,h1,h2,h3⟩
 .rw[Qb c]at e
  have hp:pvS a n R r = -1:=by unfold pvS;rw[Qb c]
  rcases hs.step hr with⟨h1,h2⟩|⟨_,_,h3⟩
  .exact .inl ⟨by rw[hp];decide,h1,h2⟩
  .have h3:(QF a n R (r+1)).2=(QF a n R r).2+1:=h3
   omega
theorem zu8{F:Nat->Int}{m n:Nat}(hm:m<=n):smI F n=smI F m+smI (fun j=>F (m+j)) (n-m):=by
 obtain⟨d,rfl⟩:∃ d,n=m+d:=⟨n-m,by omega⟩
 rw[wdj];clear hm
 induction d with
 |zero=>show smI F m=smI F m+0;omega
 |succ d ih =>
  show smI F (m+d)+F (m+d)=smI F m+(smI (fun j=>F (m+j)) d+F (m+d))
  rw[ih];omega
theorem zwR{a:Nat->Nat->Int}{n R:Nat}{S:HX}{pv:Nat->Int}{kk:Nat->Nat}{b:Nat->Int}(hp:Piv S n R kk pv)(hi:InvH a n R S){x:Nat->Int}(hx:∀ r,r<R->smI (fun j=>a r j*x j) n=b r) :
  ∃ y:Nat->Int,∀ i,i<n->x i=zfF S pv kk b n R i+smI (fun j=>S.u i (kk R+j)*y j) (n-kk R):=by
 obtain⟨q,hq⟩:∃ q:Nat->Int,q=fun j=>smI (fun i=>S.v j i*x i) n:=⟨_,rfl⟩
 have hz:∀ r,r<R->smI (fun j=>S.h r j*q j) n=b r:=fun r hr=>by rw[hq,hi.vx x hr,hx r hr]
 have hy:=(zoI hp hz R (Qd _)).1;have XQ:=hp.shp.le R (Qd _);refine⟨fun j=>q (kk R+j)-ZD S pv kk b R (kk R+j),fun i Xw=>?_⟩;have h1:x i=smI (fun j=>S.u i j*q j) n:=by
  have e:∀ j,j<n->S.u i j*q j=smI (fun l=>S.u i j*S.v j l*x l) n:=fun j _=>by
   rw[hq,<-Yp];exact Zm fun l _=>(wbP _ _ _).symm
  rw[Zm e,ze2];have e2:∀ l,l<n->smI (fun j=>S.u i j*S.v j l*x l) n=(if i=l then 1 else 0)*x l:=fun l hl=>by
   rw[<-hi.uv i l Xw hl,waI,<-Yp];exact Zm fun j _=>waI _ _
  rw[Zm e2,zca (f:=fun l=>(if i=l then 1 else 0)*x l) Xw fun l _ hl=>by rw[Qb (fun h=>hl h.symm),wbc],Qc rfl,wcq]
 have h2:∀ (F:Nat->Int) (m:Nat),m<=n->smI F n=smI F m+smI (fun j=>F (m+j)) (n-m):=fun F m hm=>zu8 hm
 have Ke:zfF S pv kk b n R i=smI (fun j=>S.u i j*ZD S pv kk b R j) n:=rfl;rw[h1,Ke,h2 (fun j=>S.u i j*q j) (kk R) XQ.1,h2 (fun j=>S.u i j*ZD S pv kk b R j) (kk R) XQ.1];have e1:smI (fun j=>S.u i j*ZD S pv kk b R j) (kk R)=smI (fun j=>S.u i j*q j) (kk R):=Zm fun j hj=>by rw[hy j hj]
 have e2:smI (fun j=>S.u i (kk R+j)*(q (kk R+j)-ZD S pv kk b R (kk R+j))) (n-kk R)=smI (fun j=>S.u i (kk R+j)*q (kk R+j)) (n-kk R)-smI (fun j=>S.u i (kk R+j)*ZD S pv kk b R (kk R+j)) (n-kk R):=by
  rw[<-zfd];exact Zm fun j _=>wb8 _ _ _
 rw[e1,e2];omega
theorem zkS{n R:Nat}{S:HX}{pv:Nat->Int}{kk:Nat->Nat}(hp:Piv S n R kk pv):∀ m,m<=R->∀ j,j<kk m->∃ r,r<m/\kk r=j/\S.h r j≠0/\∀ c,j<c->c<n->S.h r c=0
 |0,_,j,hj=>by rw[hp.shp.k0]at hj;omega
 |m+1,hm,j,hj=>by
  rcases hp.row m (by omega)with⟨h1,h2,h3⟩|⟨h1,h2,h3,h4⟩
  .obtain⟨r,a,b,c⟩:=zkS hp m (by omega) j (by omega)
   exact⟨r,by omega,b,c⟩
  .by_cases e:j=kk m
   .subst e
    exact⟨m,by omega,rfl,by omega,fun c h5 h6=>hp.shp.right m c (by omega) h5 h6⟩
   .obtain⟨r,a,b,c⟩:=zkS hp m (by omega) j (by omega)
    exact⟨r,by omega,b,c⟩
namespace SX
def bas(S:SX)(v:Nat):Prop:=∃ i,i<S.R/\S.rw i=v
def outv(S:SX):Nat:=match S.broken with|some r=>S.rw r|none=>0
def inv(S:SX):Nat:=match S.broken with
 |some r=>(match S.column r with|some c=>S.cl c|none=>0)
 |none=>0
end SX
section
variable {A:Nat->Nat->Rat} {n R:Nat} {S S':SX}
theorem InvX.broken(h:InvX A n R S){r:Nat}(hb:S.broken=some r):r<R/\n<=S.rw r/\0<S.ov (S.rw r)/\∀ i,i<R->n<=S.rw i->0<S.ov (S.rw i)->S.rw r<=S.rw i:=by
 obtain⟨h1,h2,h3⟩:=ziF hb;unfold SX.bad at h2;rw[wag,way,way,h.en]at h2;refine⟨h.eR▸h1,h2.1,h2.2,fun i hi hn hp=>h3 i (h.eR▸hi) ?_⟩;unfold SX.bad;rw[wag,way,way,h.en];exact⟨hn,hp⟩
theorem InvX.sound(h:InvX A n R S)(hb:S.broken=none):∀ v,n<=v->v<n+R->S.va v<=S.mo (v-n):=by
 intro v hv VD;rcases h.sur v VD with⟨i,hi,rfl⟩|⟨c,hc,rfl⟩
 .have:=ziE hb i (h.eR▸hi)
  unfold SX.bad at this;rw[Bool.and_eq_false_iff,decide_eq_false_iff_not,decide_eq_false_iff_not,h.en]at this;rcases this with h1|h1
  .omega
  .rw[zeL h hv]at h1;grind
 .have:=h.nb c hc
  rw[Qb (by omega)]at this;rw[this];grind
theorem InvX.column(h:InvX A n R S){r c:Nat}(hb:S.column r=some c):c<n/\(0<S.a r c\/S.a r c<0/\S.cl c<n)/\∀ j,j<n->0<S.a r j\/S.a r j<0/\S.cl j<n->S.cl c<=S.cl j:=by
 obtain⟨h1,h2,h3⟩:=ziF hb;have K0:∀ j,j<n->¬S.cl j<n->S.ov (S.cl j)=0:=fun j hj hn=>by
  rw[zeL h (by omega),h.nb j hj,Qb hn];grind
 have XC:c<n:=h.en▸h1;unfold SX.may at h2;rw[wbE,wag,wbE,way,way,way,way,h.en]at h2;refine⟨XC,?_,fun j hj hp=>h3 j (h.en▸hj) ?_⟩
 .rcases h2 with h2|⟨h2,h4|h4⟩
  .exact .inl h2
  .exact .inr ⟨h2,h4⟩
  .by_cases hn:S.cl c<n
   .exact .inr ⟨h2,hn⟩
   .rw[K0 c XC hn]at h4;exact(wd1 h4).elim
 .unfold SX.may
  rw[wbE,wag,wbE,way,way,way,way,h.en];rcases hp with hp|hp
  .exact .inl hp
  .exact .inr ⟨hp.1,.inl hp.2⟩
theorem InvX.nocol(h:InvX A n R S){r:Nat}(hb:S.column r=none):∀ c,c<n->S.a r c<=0/\(S.cl c<n->S.a r c=0):=by
 intro c hc;have:=ziE hb c (h.en▸hc);unfold SX.may at this;rw[Bool.or_eq_false_iff,Bool.and_eq_false_iff,Bool.or_eq_false_iff,decide_eq_false_iff_not,decide_eq_false_iff_not,decide_eq_false_iff_not,h.en]at this;obtain⟨h1,h2⟩:=this;refine⟨by grind,fun hn=>?_⟩;rcases h2 with h2|h2
 .grind
 .exact(h2.1 hn).elim
theorem InvX.stepd(h:InvX A n R S)(hs:S.step=some S'):∃ r c,S.broken=some r/\S.column r=some c/\S'=S.piv r c/\r<R/\c<n/\S.a r c≠0/\n<=S.rw r/\InvX A n R S':=by
 unfold SX.step at hs;cases hb:S.broken with
 |none=>rw[hb]at hs;cases hs
 |some r =>
  rw[hb]at hs;have hs:(match S.column r with|none=>none|some c=>some (S.piv r c))=some S':=hs;cases hc:S.column r with
  |none=>rw[hc]at hs;cases hs
  |some c =>
   rw[hc]at hs;cases hs
   obtain⟨h1,h2,_⟩:=h.broken hb;obtain⟨h3,h4,_⟩:=h.column hc;have h5:S.a r c≠0:=by
    intro e;rw[e]at h4;rcases h4 with h4|h4
    .exact wd1 h4
    .exact wd1 h4.1
   exact⟨r,c,rfl,hc,rfl,h1,h3,h5,h2,h.piv h1 h3 h5 h2⟩
theorem zmZ(f:Nat->Nat):∀ {k:Nat},0<k->∃ p,p<k/\∀ i,i<k->f i<=f p
 |0,h=>by omega
 |1,_=>⟨0,by omega,fun i hi=>by rw[show i=0 by omega];exact Qd _⟩
 |k+2,_=>by
  obtain⟨p,h1,h2⟩:=zmZ f (k:=k+1) (by omega);by_cases c:f p<=f (k+1)
  .refine⟨k+1,by omega,fun i hi=>?_⟩
   by_cases e:i=k+1
   .rw[e];exact Qd _
   .have:=h2 i (by omega);omega
  .refine⟨p,by omega,fun i hi=>?_⟩
   by_cases e:i=k+1
   .rw[e];omega
   .exact h2 i (by omega)
theorem ze9{P:Nat->Prop}{k:Nat}(h:∀ i,i<k->P i->P (i+1)){i:Nat}:∀ {j:Nat},i<=j->j<=k->P i->P j
 |0,hi,_,hp=>by rwa[show i=0 by omega]at hp
 |j+1,hi,hj,hp=>by
  by_cases e:i=j+1
  .rwa[e]at hp
  .exact h j (by omega) (ze9 h (j:=j) (by omega) (by omega) hp)
theorem zy8(T:Nat->SX)(k:Nat)(hk:0<k)(hI:∀ i,i<=k->InvX A n R (T i))(mo:Nat->Rat)(WZ:∀ i,i<=k->(T i).mo=mo)(hs:∀ i,i<k->(T i).step=some (T (i+1)))
  (hb:∀ v,(T 0).bas v↔(T k).bas v):False:=by
 have YN:∀ i,i<k->∃ r c,(T i).broken=some r/\(T i).column r=some c/\(T i).outv=(T i).rw r/\(T i).inv=(T i).cl c/\r<R/\c<n:=fun i hi=>by
  obtain⟨r,c,h1,h2,_,h3,h4,_⟩:=(hI i (by omega)).stepd (hs i hi);refine⟨r,c,h1,h2,?_,?_,h3,h4⟩
  .unfold SX.outv;rw[h1]
  .unfold SX.inv;rw[h1];show(match (T i).column r with|some c=>(T i).cl c|none=>0)=_;rw[h2]
 have Kk:∀ i,i<=k->∀ v,(T i).bas v↔∃ j,j<R/\(T i).rw j=v:=fun i hi v=>by
  unfold SX.bas;rw[(hI i hi).eR]
 have FQ:∀ i,i<k->¬(T i).bas (T i).inv:=fun i hi hh=>by
  obtain⟨r,c,_,_,_,h4,_,h6⟩:=YN i hi;obtain⟨j,hj,e⟩:=(Kk i (by omega) _).1 hh;rw[h4]at e;exact(hI i (by omega)).dis j c hj h6 e
 have GU:∀ i,i<k->(T i).bas (T i).outv:=fun i hi=>by
  obtain⟨r,c,_,_,h3,_,h5,_⟩:=YN i hi;exact(Kk i (by omega) _).2 ⟨r,h5,h3.symm⟩
 have Xs:∀ i,i<k->∀ v,(T (i+1)).bas v↔((T i).bas v/\v≠(T i).outv)\/v=(T i).inv:=fun i hi v=>by
  obtain⟨r,c,h1,h2,h3,h4,h5,h6⟩:=YN i hi;obtain⟨r',c',k1,k2,k3,_⟩:=(hI i (by omega)).stepd (hs i hi);rw[h1]at k1;cases k1
  rw[h2]at k2;cases k2
  have Y6:=hI i (by omega);rw[Kk (i+1) (by omega),Kk i (by omega),h3,h4,k3];constructor
  .rintro⟨j,hj,e⟩
   have e:(if j=r then(T i).cl c else(T i).rw j)=v:=e;by_cases GC:j=r
   .rw[Qc GC]at e;exact .inr e.symm
   .rw[Qb GC]at e
    exact .inl ⟨⟨j,hj,e⟩,fun e2=>GC (Y6.rinj _ _ hj h5 (e.trans e2))⟩
  .rintro(⟨⟨j,hj,e⟩,hne⟩|e)
   .refine⟨j,hj,?_⟩
    show(if j=r then(T i).cl c else(T i).rw j)=v;rw[Qb (fun e2=>hne (by rw[<-e,e2]))];exact e
   .exact⟨r,h5,by show(if r=r then(T i).cl c else _)=v;rw[Qc rfl,e]⟩
 have V4:∀ i,i<k->∃ j,j<k/\(T j).outv=(T i).inv:=fun i hi=>by
  by_cases hc:∃ j,j<k/\(T j).outv=(T i).inv
  .exact hc
  .exfalso
   have YN:∀ j,j<k->(T j).bas (T i).inv->(T (j+1)).bas (T i).inv:=fun j hj Rw=>(Xs j hj _).2 (.inl ⟨Rw,fun e=>hc ⟨j,hj,e.symm⟩⟩)
   have h1:(T (i+1)).bas (T i).inv:=(Xs i hi _).2 (.inr rfl);have h2:=ze9 YN (i:=i+1) (j:=k) (by omega) (Qd _) h1;have h3:=ze9 YN (i:=0) (j:=i) (by omega) (by omega) ((hb _).2 h2);exact FQ i hi h3
 obtain⟨p,hp,JQ⟩:=zmZ (fun i=>(T i).outv) hk;have JQ:∀ i,i<k->(T i).outv<=(T p).outv:=JQ;obtain⟨q,hq,Ub⟩:∃ q,q<k/\(T q).inv=(T p).outv:=by
  by_cases hc:∃ q,q<k/\(T q).inv=(T p).outv
  .exact hc
  .exfalso
   have YN:∀ j,j<k->¬(T j).bas (T p).outv->¬(T (j+1)).bas (T p).outv:=fun j hj Rw hh=>by
    rcases(Xs j hj _).1 hh with h|h
    .exact Rw h.1
    .exact hc ⟨j,hj,h.symm⟩
   have h1:¬(T (p+1)).bas (T p).outv:=fun hh=>by
    rcases(Xs p hp _).1 hh with h|h
    .exact h.2 rfl
    .exact hc ⟨p,hp,h.symm⟩
   have h2:=ze9 YN (i:=p+1) (j:=k) (by omega) (Qd _) h1;have h3:=ze9 YN (i:=0) (j:=p) (by omega) (by omega) (fun hh=>h2 ((hb _).1 hh));exact h3 (GU p hp)
 generalize ht:(T p).outv=t at *
 obtain⟨rp,cp,p1,p2,p3,p4,p5,p6⟩:=YN p hp;obtain⟨rq,cq,q1,q2,q3,q4,q5,q6⟩:=YN q hq;have Ip:=hI p (by omega);have Iq:=hI q (by omega);obtain⟨_,b2,b3,b4⟩:=Ip.broken p1;obtain⟨_,d2,d3,_⟩:=Iq.broken q1;obtain⟨_,e2,e3⟩:=Iq.column q2;have Kd:(T p).rw rp=t:=by rw[<-p3,ht]
 have Rx:(T q).cl cq=t:=by rw[<-q4,Ub]
 rw[Kd]at b2 b3 b4;have GV:=WZ p (by omega);have E5:=WZ q (by omega);have YZ:∀ v,n<=v->v<n+R->v<t->(T p).va v<=mo (v-n):=fun v hv FS SF=>by
  rcases Ip.sur v FS with⟨i,hi,rfl⟩|⟨c,hc,rfl⟩
  .have h1:¬0<(T p).ov ((T p).rw i):=fun h=>by have:=b4 i hi hv h;omega
   rw[zeL Ip hv,GV]at h1;grind
  .have h1:=Ip.nb c hc
   rw[Qb (by omega),GV]at h1;rw[h1];exact wdl
 have Gd:(T p).va ((T q).rw rq)=_:=(Iq.eqv _).1 Ip.val rq q5;have ON:(T q).va ((T q).rw rq)=_:=(Iq.eqv _).1 Iq.val rq q5;have LS:(T p).va ((T q).rw rq)-(T q).va ((T q).rw rq)=smQ (fun c=>(T q).a rq c*((T p).va ((T q).cl c)-(T q).va ((T q).cl c))) n:=by
  have:smQ (fun c=>(T q).a rq c*((T p).va ((T q).cl c)-(T q).va ((T q).cl c))) n+smQ (fun c=>(T q).a rq c*(T q).va ((T q).cl c)) n=smQ (fun c=>(T q).a rq c*(T p).va ((T q).cl c)) n:=by
   rw[<-zho];exact Yd fun c _=>by grind
  rw[Gd,ON,<-this];grind
 have YQ:0<smQ (fun c=>(T q).a rq c*((T p).va ((T q).cl c)-(T q).va ((T q).cl c))) n:=by
  refine zxx q6 (fun c hc=>?_) ?_
  .show 0<=(T q).a rq c*((T p).va ((T q).cl c)-(T q).va ((T q).cl c))
   by_cases hf:∃ i,i<k/\(T i).outv=(T q).cl c
   .obtain⟨i,hi,GD⟩:=hf
    have XC:n<=(T q).cl c:=by
     obtain⟨r,c',h1,_,h3,_⟩:=YN i hi;have:=((hI i (by omega)).broken h1).2.1;rw[<-GD,h3];exact this
    have VK:(T q).cl c<=t:=by rw[<-GD];exact JQ i hi
    have Ge:(T q).va ((T q).cl c)=mo ((T q).cl c-n):=by
     have:=Iq.nb c hc;rw[Qb (by omega),E5]at this;exact this
    by_cases FT:(T q).cl c=t
    .have OO:c=cq:=Iq.cinj _ _ hc q6 (FT.trans Rx.symm)
     subst OO;have ha:0<(T q).a rq c:=by
      rcases e2 with e2|e2
      .exact e2
      .omega
     have h1:0<(T p).va t-mo (t-n):=by rw[<-GV,<-zeL Ip (by omega)];exact b3
     rw[Ge,Rx];exact Rat.le_of_lt (Rat.mul_pos ha h1)
    .have h1:=YZ _ XC (Iq.clt c hc) (by omega)
     have ha:¬0<(T q).a rq c:=fun h=>by
      have:=e3 c hc (.inl h);rw[Rx]at this;omega
     rw[Ge];have h2:(T q).a rq c<=0:=Rat.not_lt.1 ha;have h3:(T p).va ((T q).cl c)-mo ((T q).cl c-n)<=0:=by grind
     have h4:=Rat.mul_nonneg (a:=-(T q).a rq c) (b:=-((T p).va ((T q).cl c)-mo ((T q).cl c-n))) (by grind) (by grind)
     grind
   ·
    have OP:∀ i,i<k->(T i).inv≠(T q).cl c:=fun i hi e=>by
     obtain⟨j,hj,e2⟩:=V4 i hi;exact hf ⟨j,hj,by rw[e2,e]⟩
    have OQ:¬(T q).bas ((T q).cl c):=fun hh=>by
     obtain⟨j,hj,e⟩:=(Kk q (by omega) _).1 hh;exact Iq.dis j c hj hc e
    have JR:∀ j,j<k->¬(T j).bas ((T q).cl c)->¬(T (j+1)).bas ((T q).cl c):=fun j hj Rw hh=>by
     rcases(Xs j hj _).1 hh with h|h
     .exact Rw h.1
     .exact OP j hj h.symm
    have Vd:=ze9 JR (i:=q) (j:=k) (by omega) (Qd _) OQ;have Uv:=ze9 JR (i:=0) (j:=p) (by omega) (by omega) (fun hh=>Vd ((hb _).1 hh));have FS:=Iq.clt c hc;rcases Ip.sur _ FS with⟨i,hi,e⟩|⟨c2,Kb,e⟩
    .exact(Uv ((Kk p (by omega) _).2 ⟨i,hi,e⟩)).elim
    .have h1:=Ip.nb c2 Kb
     have h2:=Iq.nb c hc;rw[e,GV]at h1;rw[E5]at h2;rw[h1,h2];have:(if(T q).cl c<n then(0:Rat)else mo ((T q).cl c-n))-(if(T q).cl c<n then(0:Rat)else mo ((T q).cl c-n))=0:=by grind
     rw[this,wcp];exact wdl
  .show 0<(T q).a rq cq*((T p).va ((T q).cl cq)-(T q).va ((T q).cl cq))
   have Ge:(T q).va ((T q).cl cq)=mo ((T q).cl cq-n):=by
    have:=Iq.nb cq q6;rw[Qb (by omega),E5]at this;exact this
   have ha:0<(T q).a rq cq:=by
    rcases e2 with e2|e2
    .exact e2
    .omega
   have h1:0<(T p).va t-mo (t-n):=by rw[<-GV,<-zeL Ip (by omega)];exact b3
   rw[Ge,Rx];exact Rat.mul_pos ha h1
 have GW:(T q).rw rq<=t:=by rw[<-q3];exact JQ q hq
 have hne:(T q).rw rq≠t:=fun e=>Iq.dis rq cq q5 q6 (e.trans Rx.symm)
 have h1:=YZ _ d2 (Iq.rlt rq q5) (by omega);rw[zeL Iq d2,E5]at d3
 grind
end
def zlX(A:Nat->Nat->Rat)(n R:Nat)(mo:Nat->Rat):SX:=⟨n,R,fun i=>n+i,fun j=>j,A,fun _=>0,mo⟩
theorem zsW(A:Nat->Nat->Rat)(n R:Nat)(mo:Nat->Rat):InvX A n R (zlX A n R mo) where
 en:=rfl
 eR:=rfl
 rlt i hi:=by show n+i<n+R;omega
 clt c hc:=by show c<n+R;omega
 rinj i j _ _ e:=by have e:n+i=n+j:=e;omega
 cinj i j _ _ e:=e
 dis i c _ hc e:=by have e:n+i=c:=e;omega
 sur v hv:=by
  by_cases h:v<n
  .exact .inr ⟨v,h,rfl⟩
  .exact .inl ⟨v-n,by omega,by show n+(v-n)=v;omega⟩
 eqv x:=wbn
 val i _:=(zen fun j _=>by show A i j*(0:Rat)=0;grind).symm
 nb c hc:=by show(0:Rat)=if c<n then 0 else _;rw[Qc hc]
def itX(S:SX):Nat->SX
 |0=>S
 |t+1=>match (itX S t).step with|some S'=>S'|none=>itX S t
def zh3(S:SX)(t:Nat):Prop:=∀ s,s<t->(itX S s).step≠none
section
variable {A:Nat->Nat->Rat} {n R:Nat} {S:SX}
theorem zw9{S S':SX}(h:InvX A n R S)(hs:S.step=some S'):S'.mo=S.mo:=by
 obtain⟨r,c,_,_,rfl,_⟩:=h.stepd hs;rfl
theorem zoE{t:Nat}(h:(itX S t).step≠none):(itX S t).step=some (itX S (t+1)):=by
 cases e:(itX S t).step with
 |none=>exact(h e).elim
 |some S'=>show some S'=some (match (itX S t).step with|some S'=>S'|none=>itX S t);rw[e]
theorem zdN(h:InvX A n R S):∀ t,InvX A n R (itX S t)/\(itX S t).mo=S.mo
 |0=>⟨h,rfl⟩
 |t+1=>by
  obtain⟨h1,h2⟩:=zdN h t;cases e:(itX S t).step with
  |none =>
   have e2:itX S (t+1)=itX S t:=by show(match (itX S t).step with|some S'=>S'|none=>itX S t)=_;rw[e]
   rw[e2];exact⟨h1,h2⟩
  |some S' =>
   have e2:itX S (t+1)=S':=by show(match (itX S t).step with|some S'=>S'|none=>itX S t)=_;rw[e]
   rw[e2];obtain⟨_,_,_,_,_,_,_,_,_,h3⟩:=h1.stepd e;exact⟨h3,(zw9 h1 e).trans h2⟩
open Classical in
theorem zxa(h:InvX A n R S):¬zh3 S (2^(n+R)):=by
 intro hr;obtain⟨f,hf⟩:∃ f:Nat->Nat,f=fun t=>zaI 2 (fun v=>if(itX S t).bas v then 1 else 0) (n+R):=⟨_,rfl⟩
 obtain⟨i,j,h1,h2,h3⟩:=zlL (2^(n+R)) f fun t _=>by
  rw[hf];exact zhg fun v _=>by
   show(if(itX S t).bas v then 1 else 0)<2;split<;>omega
 rw[hf]at h3;have h4:=zkQ (fun v _=>by
   show(if(itX S i).bas v then 1 else 0)<2;split<;>omega) (fun v _=>by
   show(if(itX S j).bas v then 1 else 0)<2;split<;>omega) h3
 refine zy8 (A:=A) (n:=n) (R:=R) (fun t=>itX S (i+t)) (j-i) (by omega) (fun t _=>(zdN h _).1) S.mo (fun t _=>(zdN h _).2) (fun t ht=>zoE (hr _ (by omega))) fun v=>?_
 show(itX S (i+0)).bas v↔(itX S (i+(j-i))).bas v;rw[wap,show i+(j-i)=j by omega];by_cases hv:v<n+R
 .have:=h4 v hv
  by_cases c1:(itX S i).bas v<;>by_cases c2:(itX S j).bas v
  .exact⟨fun _=>c2,fun _=>c1⟩
  .have this:(if(itX S i).bas v then 1 else 0)=(if(itX S j).bas v then 1 else 0):=this
   rw[Qc c1,Qb c2]at this;omega
  .have this:(if(itX S i).bas v then 1 else 0)=(if(itX S j).bas v then 1 else 0):=this
   rw[Qb c1,Qc c2]at this;omega
  .exact⟨fun h=>(c1 h).elim,fun h=>(c2 h).elim⟩
 .have X9:∀ t,¬(itX S t).bas v:=fun t ⟨k,hk,e⟩=>by
   have hI:=(zdN h t).1;rw[hI.eR]at hk;have:=hI.rlt k hk;omega
  exact⟨fun h=>(X9 _ h).elim,fun h=>(X9 _ h).elim⟩
def Z3(S:SX)(r:Nat):Nat->Nat->Rat
 |0=>fun v=>if v=S.rw r-S.n then 1 else 0
 |c+1=>if S.n<=S.cl c then fun v=>if v=S.cl c-S.n then -(S.a r c)else Z3 S r c v else Z3 S r c
theorem zxb{f g:Nat->Rat}{y:Rat}{k m:Nat}(hk:k<m)(h0:f k=0):smQ (fun i=>(if i=k then y else f i)*g i) m=smQ (fun i=>f i*g i) m+y*g k:=by
 rw[zdE hk (f:=fun i=>(if i=k then y else f i)*g i),zdE hk (f:=fun i=>f i*g i),h0];have:smQ (fun j=>if j=k then 0 else(if j=k then y else f j)*g j) m=smQ (fun j=>if j=k then 0 else f j*g j) m:=Yd fun j _=>by
  by_cases e:j=k
  .rw[Qc e,Qc e]
  .rw[Qb e,Qb e,Qb e]
 rw[this,Qc rfl];grind
theorem zxc(h:InvX A n R S){r:Nat}(hr:r<R)(Kx:n<=S.rw r):∀ c,c<=n->(∀ v,v≠S.rw r-n->(∀ k,k<c->S.cl k≠n+v)->Z3 S r c v=0) /\
  ∀ g:Nat->Rat,smQ (fun i=>Z3 S r c i*g i) R=g (S.rw r-n)+smQ (fun k=>if n<=S.cl k then -(S.a r k)*g (S.cl k-n)else 0) c:=by
 intro c
 induction c with
 |zero =>
  intro _;refine⟨fun v hv _=>?_,fun g=>?_⟩
  .show(if v=S.rw r-S.n then(1:Rat)else 0)=0
   rw[h.en,Qb hv]
  .have Yw:=h.rlt r hr
   rw[zfP (c:=S.rw r-n) (by omega) fun j _ hj=>?_]
   .show(if S.rw r-n=S.rw r-S.n then(1:Rat)else 0)*_=_
    rw[h.en,Qc rfl];show 1*g _=g _+0;grind
   .show(if j=S.rw r-S.n then(1:Rat)else 0)*_=_
    rw[h.en,Qb hj];grind
 |succ c ih =>
  intro hc;obtain⟨h1,h2⟩:=ih (by omega);by_cases e:n<=S.cl c
  .have e0:Z3 S r (c+1)=fun v=>if v=S.cl c-n then -(S.a r c)else Z3 S r c v:=by
    show(if S.n<=S.cl c then fun v=>if v=S.cl c-S.n then -(S.a r c)else Z3 S r c v else Z3 S r c)=_;rw[h.en,Qc e]
   rw[e0];have Yw:=h.clt c (by omega);have hz:Z3 S r c (S.cl c-n)=0:=h1 _ (fun e2=>h.dis r c hr (by omega) (by omega)) fun k hk e2=>by
    have:=h.cinj k c (by omega) (by omega) (by omega);omega
   refine⟨fun v hv hk=>?_,fun g=>?_⟩
   .show(if v=S.cl c-n then _ else _)=_
    rw[Qb (fun e2=>hk c (waN c) (by omega))];exact h1 v hv fun k Ka=>hk k (by omega)
   .have:=zxb (f:=Z3 S r c) (g:=g) (y:=-(S.a r c)) (k:=S.cl c-n) (m:=R) (by omega) hz
    rw[h2 g]at this;rw[smQ,Qc e];show smQ (fun i=>(if i=S.cl c-n then -(S.a r c)else Z3 S r c i)*g i) R=_;rw[this];grind
  .have e0:Z3 S r (c+1)=Z3 S r c:=by
    show(if S.n<=S.cl c then fun v=>if v=S.cl c-S.n then -(S.a r c)else Z3 S r c v else Z3 S r c)=_;rw[h.en,Qb e]
   rw[e0];refine⟨fun v hv hk=>h1 v hv fun k Ka=>hk k (by omega),fun g=>?_⟩;rw[h2 g,smQ,Qb e];grind
theorem zmR(h:InvX A n R S){r:Nat}(ha:∀ c,c<n->S.a r c<=0):∀ c,c<=n->∀ v,0<=Z3 S r c v
 |0,_,v=>by
  show(0:Rat)<=if v=S.rw r-S.n then 1 else 0
  split<;>grind
 |c+1,hc,v=>by
  have ih:=zmR h ha c (by omega);show(0:Rat)<=(if S.n<=S.cl c then fun v=>if v=S.cl c-S.n then -(S.a r c)else Z3 S r c v else Z3 S r c) v;split
  .show(0:Rat)<=if v=S.cl c-S.n then -(S.a r c)else Z3 S r c v
   split
   .have:=ha c (by omega);grind
   .exact ih v
  .exact ih v
theorem zxd(h:InvX A n R S){r:Nat}(hb:S.broken=some r)(hc:S.column r=none) :
  (∀ v,0<=Z3 S r n v)/\(∀ j,j<n->smQ (fun i=>Z3 S r n i*A i j) R=0)/\smQ (fun i=>Z3 S r n i*S.mo i) R<0:=by
 obtain⟨hr,Kx,K0,_⟩:=h.broken hb;have Ld:=h.nocol hc;obtain⟨_,h2⟩:=zxc h hr Kx n (Qd _);have DM:∀ (g x:Nat->Rat),(∀ i,n<=i->i<n+R->x i=g (i-n))->smQ (fun k=>if n<=S.cl k then -(S.a r k)*g (S.cl k-n)else 0) n = -1*smQ (fun k=>S.a r k*x (S.cl k)) n:=fun g x hx=>by
  rw[<-zcK];refine Yd fun k hk=>?_
  split
  .rename_i hn
   rw[hx _ hn (h.clt k hk)];grind
  .rename_i hn
   rw[(Ld k hk).2 (by omega)];grind
 refine⟨zmR h (fun c hc=>(Ld c hc).1) n (Qd _),fun j hj=>?_,?_⟩
 .obtain⟨x,hx⟩:∃ x:Nat->Rat,x=fun v=>if v<n then(if v=j then 1 else 0)else A (v-n) j:=⟨_,rfl⟩
  have Le:∀ i,n<=i->x i=A (i-n) j:=fun i hi=>by rw[hx];show(if i<n then _ else _)=_;rw[Qb (by omega)]
  have Us:∀ i,i<n->x i=if i=j then 1 else 0:=fun i hi=>by rw[hx];show(if i<n then _ else _)=_;rw[Qc hi]
  have NG:zfK A n R x:=fun i hi=>by
   rw[Le _ (by omega),zfP (c:=j) hj fun k hk PZ=>by rw[Us k hk,Qb PZ];grind,Us j hj,Qc rfl,show n+i-n=i by omega];grind
  have YE:=(h.eqv x).1 NG r hr;rw[h2,DM (fun i=>A i j) x fun i hi _=>Le i hi,<-YE,Le _ Kx];grind
 .have YE:=(h.eqv S.va).1 h.val r hr
  have hk:smQ (fun k=>if n<=S.cl k then -(S.a r k)*S.mo (S.cl k-n)else 0) n = -1*smQ (fun k=>S.a r k*S.va (S.cl k)) n:=by
   rw[<-zcK];refine Yd fun k hk=>?_
   have hv:=h.nb k hk;split
   .rename_i hn
    rw[hv,Qb (by omega)];grind
   .rename_i hn
    rw[(Ld k hk).2 (by omega)];grind
  rw[h2,hk,<-YE];rw[zeL h Kx]at K0
  grind
theorem znz{f:Nat->Rat}:∀ {n:Nat},smQ f (n+1)=f 0+smQ (fun i=>f (i+1)) n
 |0=>by show(0:Rat)+f 0=f 0+0;grind
 |n+1=>by rw[smQ,znz,smQ];grind
theorem zkY{f:Nat->Int}:∀ {n:Nat},((smI f n:Int):Rat)=smQ (fun i=>(f i:Rat)) n
 |0=>rfl
 |n+1=>by rw[smI,smQ,<-zkY,wcu]
theorem zm9{q:Rat}{y0 y1:Int}(h:(y0:Rat)*q+(y1:Rat)=0)(h0:y0≠0):q.num.natAbs<=y1.natAbs/\q.den<=y0.natAbs:=by
 have hd:(q.den:Rat)≠0:=by
  have:=q.den_nz;intro e;have:((q.den:Int):Rat)=((0:Int):Rat):=by rw[wea];exact e
  have:=web.1 this;omega
 have hq:q*(q.den:Rat)=(q.num:Rat):=by
  have h1:q=(q.num:Rat)/(q.den:Rat):=by
   have:=(Rat.num_divInt_den q).symm;rw[wdZ,wea]at this;exact this
  have h2:q*(q.den:Rat)=(q.num:Rat)/(q.den:Rat)*(q.den:Rat):=by rw[<-h1]
  rw[h2,wbU,Rat.mul_assoc,Rat.inv_mul_cancel _ hd,Rat.mul_one]
 have h1:((y0*q.num:Int):Rat)=((-(y1*(q.den:Int)):Int):Rat):=by
  rw[wbV,wdJ,wbV,wea,<-hq]
  grind
 have h2:y0*q.num = -(y1*(q.den:Int)):=web.1 h1;have h3:y0.natAbs*q.num.natAbs=y1.natAbs*q.den:=by
  have:=congrArg Int.natAbs h2;rw[wbb,wcv,wbb,wbv]at this;exact this
 have h4:q.den∣y0.natAbs:=by
  have:q.den∣y0.natAbs*q.num.natAbs:=⟨y1.natAbs,by rw[h3,Qt]⟩
  exact Nat.Coprime.dvd_of_dvd_mul_right q.reduced.symm this
 have h5:q.den<=y0.natAbs:=Nat.le_of_dvd (by omega) h4;refine⟨?_,h5⟩;obtain⟨k,hk⟩:=h4;have Vd:0<k:=by
  rcases wcb k with e|e
  .subst e;omega
  .exact e
 have XD:=q.den_pos;have h6:q.den*(k*q.num.natAbs)=q.den*y1.natAbs:=by rw[<-wae,<-hk,h3,Qt]
 have h7:=Nat.eq_of_mul_eq_mul_left XD h6;rw[<-h7];exact wcA _ Vd
def vecX(Ai:Nat->Nat->Int)(n v j:Nat):Int:=if v<n then(if v=j then 1 else 0)else Ai (v-n) j
theorem relX(Ai:Nat->Nat->Int){B:Nat}(hB:1<=B)(DN:∀ i j,i<R->j<n->(Ai i j).natAbs<=B)(h:InvX (fun i j=>(Ai i j:Rat)) n R S){r:Nat}(hr:r<R) :
  ∃ y:Nat->Int,y 0≠0/\(∀ i,i<n+1->(y i).natAbs<=(2*((n+1)*B)+1)^n)/\(∀ c,c<n->(y 0:Rat)*S.a r c+(y (c+1):Rat)=0)/\∀ x,zfK (fun i j=>(Ai i j:Rat)) n R x->(y 0:Rat)*x (S.rw r)+smQ (fun i=>(y (i+1):Rat)*x (S.cl i)) n=0:=by
 obtain⟨vs,JS⟩:∃ vs:Nat->Nat,vs=fun i=>if i=0 then S.rw r else S.cl (i-1):=⟨_,rfl⟩
 have DO:vs 0=S.rw r:=by rw[JS];rfl
 have DP:∀ i,vs (i+1)=S.cl i:=fun i=>by rw[JS];rfl
 have Ww:∀ i,i<n+1->vs i<n+R:=fun i hi=>by
  cases i with
  |zero=>rw[DO];exact h.rlt r hr
  |succ i=>rw[DP];exact h.clt i (by omega)
 obtain⟨y,⟨i0,XG,Vq⟩,VU,hy⟩:=zyh n B (fun i j=>vecX Ai n (vs i) j) fun i j hi hj=>by
  show(vecX Ai n (vs i) j).natAbs<=B;unfold vecX;split
  .split
   .exact hB
   .exact Qk _
  .exact DN _ _ (by have:=Ww i hi;omega) hj
 have YO:∀ x,zfK (fun i j=>(Ai i j:Rat)) n R x->∀ v,v<n+R->x v=smQ (fun j=>(vecX Ai n v j:Rat)*x j) n:=fun x hx v hv=>by
  by_cases e:v<n
  .rw[zfP (c:=v) e fun j _ hj=>by unfold vecX;rw[Qc e,Qb (fun e=>hj e.symm)];exact wbC _]
   unfold vecX;rw[Qc e,Qc rfl];exact(Rat.one_mul _).symm
  .have:=hx (v-n) (by omega)
   rw[show n+(v-n)=v by omega]at this;rw[this];exact Yd fun j _=>by unfold vecX;rw[Qb e]
 have Rk:∀ x,zfK (fun i j=>(Ai i j:Rat)) n R x->(y 0:Rat)*x (S.rw r)+smQ (fun i=>(y (i+1):Rat)*x (S.cl i)) n=0:=fun x hx=>by
  have e1:smQ (fun i=>(y i:Rat)*x (vs i)) (n+1)=0:=by
   rw[Yd (g:=fun i=>smQ (fun j=>((y i*vecX Ai n (vs i) j:Int):Rat)*x j) n) fun i hi=>by
    rw[YO x hx _ (Ww i hi),<-zcK];exact Yd fun j _=>by rw[wbV];grind]
   rw[zk3];refine zen fun j hj=>?_
   have:=hy j hj;have e2:smQ (fun i=>((y i*vecX Ai n (vs i) j:Int):Rat)*x j) (n+1)=x j*smQ (fun i=>((y i*vecX Ai n (vs i) j:Int):Rat)) (n+1):=by
    rw[<-zcK];exact Yd fun i _=>Rat.mul_comm _ _
   rw[e2,<-zkY,this];exact wcp _
  rw[znz,DO]at e1;rw[<-e1];congr 1;exact Yd fun i _=>by rw[DP]
 have YR:∀ c,c<n->(y 0:Rat)*S.a r c+(y (c+1):Rat)=0:=fun c hc=>by
  obtain⟨x,hx⟩:∃ x:Nat->Rat,x=fun v=>(if v=S.cl c then 1 else 0)+smQ (fun i=>if S.rw i=v then S.a i c else 0) R:=⟨_,rfl⟩
  have NV:∀ j,j<n->x (S.cl j)=if j=c then 1 else 0:=fun j hj=>by
   rw[hx];show(if S.cl j=S.cl c then(1:Rat)else 0)+smQ (fun i=>if S.rw i=S.cl j then S.a i c else 0) R=_;rw[zen fun i hi=>Qb (h.dis i j hi hj),wcZ];by_cases e:j=c
   .rw[Qc e,Qc (by rw[e])]
   .rw[Qb e,Qb (fun e2=>e (h.cinj _ _ hj hc e2))]
  have MH:∀ i,i<R->x (S.rw i)=S.a i c:=fun i hi=>by
   rw[hx];show(if S.rw i=S.cl c then(1:Rat)else 0)+smQ (fun k=>if S.rw k=S.rw i then S.a k c else 0) R=_;rw[Qb (h.dis i c hi hc),Rat.zero_add,zfP (c:=i) hi fun k hk Ku=>Qb (fun e=>Ku (h.rinj _ _ hk hi e)),Qc rfl]
  have NG:zfK (fun i j=>(Ai i j:Rat)) n R x:=(h.eqv x).2 fun i hi=>by
   rw[MH i hi,zfP (c:=c) hc fun j hj Rz=>by rw[NV j hj,Qb Rz];exact wcp _,NV c hc,Qc rfl];exact(Rat.mul_one _).symm
  have:=Rk x NG;rw[MH r hr,zfP (c:=c) hc fun j hj Rz=>by rw[NV j hj,Qb Rz];exact wcp _,NV c hc,Qc rfl,Rat.mul_one]at this;exact this
 have Jk:y 0≠0:=by
  intro e;cases i0 with
  |zero=>exact Vq e
  |succ i =>
   have:=YR i (by omega);rw[e]at this;have h2:((y (i+1):Int):Rat)=((0:Int):Rat):=by
    have h3:((0:Int):Rat)=0:=rfl;rw[h3]at this ⊢;rw[wbC,Rat.zero_add]at this;exact this
   exact Vq (web.1 h2)
 exact⟨y,Jk,VU,YR,Rk⟩
theorem zzj(Ai:Nat->Nat->Int){B:Nat}(hB:1<=B)(DN:∀ i j,i<R->j<n->(Ai i j).natAbs<=B)(h:InvX (fun i j=>(Ai i j:Rat)) n R S){r c:Nat}(hr:r<R)(hc:c<n) :
  (S.a r c).num.natAbs<=(2*((n+1)*B)+1)^n/\(S.a r c).den<=(2*((n+1)*B)+1)^n:=by
 obtain⟨y,Jk,VU,YR,_⟩:=relX Ai hB DN h hr;obtain⟨k1,k2⟩:=zm9 (YR c hc) Jk;have b0:=VU 0 (by omega);have b1:=VU (c+1) (by omega);omega
theorem zqT{f:Nat->Int}{M:Nat}:∀ {n:Nat},(∀ i,i<n->(f i).natAbs<=M)->(smI f n).natAbs<=n*M
 |0,_=>Qk _
 |n+1,h=>by
  have h1:=zqT (n:=n) fun i hi=>h i (by omega)
  have h2:=h n (by omega);have h3:=Int.natAbs_add_le (smI f n) (f n);show(smI f n+f n).natAbs<=_;rw[waX];omega
theorem zzk(Ai:Nat->Nat->Int){B C:Nat}(hB:1<=B)(DN:∀ i j,i<R->j<n->(Ai i j).natAbs<=B)(h:InvX (fun i j=>(Ai i j:Rat)) n R S)(b:Nat->Int)(hb:∀ c,c<n->S.va (S.cl c)=(b c:Rat)/\(b c).natAbs<=C){r:Nat}(hr:r<R) :
  (S.va (S.rw r)).num.natAbs<=n*((2*((n+1)*B)+1)^n*C)/\(S.va (S.rw r)).den<=(2*((n+1)*B)+1)^n:=by
 obtain⟨y,Jk,VU,_,Rk⟩:=relX Ai hB DN h hr;have h1:=Rk S.va h.val;rw[Yd (g:=fun i=>((y (i+1)*b i:Int):Rat)) fun i hi=>by rw[(hb i hi).1,wbV],<-zkY]at h1;obtain⟨k1,k2⟩:=zm9 h1 Jk;have b0:=VU 0 (by omega);refine⟨Qn k1 (zqT fun i hi=>?_),Qn k2 b0⟩;rw[wbb];exact waB (VU _ (by omega)) (hb i hi).2
end
end Go.Abs
