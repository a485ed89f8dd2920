/- At every input the call answers true and leaves its arguments as they were; no conditions. -/
import Derived.Test.YtlgjjcmljmjenaaGreatFa
import Derived.Test.YtlgjjcmljmjenaaGreatAd
set_option linter.unusedSimpArgs false
set_option linter.unusedVariables false
set_option maxRecDepth 100000
set_option maxHeartbeats 4000000
namespace Go.Proofs.YtlgjjcmljmjenaaGreat
open Go Go.Abs Go.Proofs.Tryz
theorem zp0(xs:List Nat)(hl:xs.length<30000000000000):Q9 prog 32 [tN xs] (tB (decide (IsN xs))):=by
 refine QJ QC call32 func32 rfl ntmps32 results32 (by simp) (by decide) ?_;simp only[go_sem];refine QK (fun i:Nat=>stL 27 [(0,aN xs),(3,litI .i64 i)] []) (fun i=>i<=xs.length/\∀ j (h:j<xs.length),j<i->xs[j]<1000000000) (fun i=>xs.length-i) 0 ?_ ⟨Qk _,fun j h hj=>Qo hj (waO _)⟩ ?_
 .refine Q7 rfl ?_ ?_ rfl rfl<;>simp only[go_sem]<;>simp
 .rintro i ⟨hi,YK⟩
  simp only[go_sem];refine QI (fun Yw=>?_) (fun YG=>?_)
  .have Yv:i<xs.length:=by omega
   simp only[go_sem,Q8 Yv,Yw];refine⟨by omega,QI (fun h=>?_) (fun h=>?_)⟩
   .simp only[go_sem]
    symm;simp only[decide_eq_false_iff_not];intro hc;have:=hc.1 xs[i] (Qh _);simp only[BB]at this;omega
   .simp only[go_sem]
    refine⟨i+1,⟨Yv,fun j hj K5=>?_⟩,(by show xs.length-(i+1)<xs.length-i;omega),?_⟩
    .by_cases e:j=i
     .subst e;omega
     .exact YK j hj (by omega)
    .refine Q7 rfl ?_ ?_ rfl rfl<;>simp only[go_sem,Q6 (n:=(i:Int)+1) (by omega) (by omega)]<;>simp
  .have Ua:i=xs.length:=by omega
   subst Ua;have hall:∀ x∈xs,x<BB:=fun x hx=>by
    obtain⟨j,hj,rfl⟩:=waK.1 hx;exact YK j hj hj
   simp only[go_sem];cases hx:xs with
   |nil =>
    simp only[go_sem];rfl
   |cons x l =>
    rw[hx]at hl hall;simp only[Qe]at hl;have hne:¬((l.length:Int)+1=0):=by omega
    have Y0:l.length<(x::l).length:=by simp
    (iterate 3((try simp only[go_sem,hne,show(l.length:Int)+1-1=(l.length:Int) by omega]);try simp(disch:=omega)only[Q6,Q8]))
    have e:(x::l).getLast? = some ((x::l)[l.length]):=by simp[wco]
    have Y9:IsN (x::l)↔(x::l)[l.length]≠0:=by
     unfold IsN;rw[e];simp only[ne_eq,wa1];exact⟨fun h=>h.2,fun h=>⟨hall,h⟩⟩
    refine⟨by omega,?_⟩;rw[wax,Y9];omega
theorem zeK(xs:List Nat)(hl:xs.length<30000000000000):Q9 prog 68 [tN xs] (tN (held xs)):=by
 refine QJ QC call68 func68 rfl ntmps68 results68 (by simp) (by decide) ?_;simp only[go_sem];refine Q3 (zp0 xs hl) rfl ?_;by_cases h:IsN xs
 .simp only[go_sem,h,held]
  exact Yr
 .simp only[go_sem,h,held]
  exact zcz
theorem zgy(xs:List Nat)(hl:xs.length<30000000000000):Q9 prog 72 [tN xs] (tN (trimZ xs)):=by
 refine QJ QC call72 func72 rfl ntmps72 results72 (by simp) (by decide) ?_;simp only[go_sem];refine QK (fun k:Nat=>stL 21 [(0,aN xs),(3,litI .i64 k)] []) (fun k=>k<=xs.length/\trimZ (xs.take k)=trimZ xs) (fun k=>k) xs.length ?_ ⟨Qd _,by rw[Q1]⟩ ?_
 .refine Q7 rfl ?_ ?_ rfl rfl<;>simp only[go_sem]<;>simp
 .rintro k ⟨hi,YK⟩
  rcases wcb k with rfl|hk
  .simp only[go_sem]
   rw[<-YK];refine⟨by omega,Yr⟩
  .obtain⟨i,rfl⟩:∃ i,k=i+1:=⟨k-1,by omega⟩
   have Y6:i<xs.length:=by omega
   have YQ:(0:Int)<((i+1:Nat):Int):=by omega
   have X7:(0:Int)<(i:Int)+1:=by omega
   have e:((i+1:Nat):Int)-1=i:=by omega
   have e2:(i:Int)+1-1=i:=by omega
   rw[Zd Y6]at YK
   (iterate 3((try simp only[go_sem,X7,e2]);try simp(disch:=omega)only[Q6,Q8]))
   refine⟨by omega,QI (fun h=>?_) (fun h=>?_)⟩
   .have hx:xs[i]=0:=by omega
    rw[hx,zii]at YK
    (iterate 3((try simp only[go_sem,e2]);try simp(disch:=omega)only[Q6]))
    refine⟨i,⟨by omega,YK⟩,waN i,?_⟩;refine Q7 rfl ?_ ?_ rfl ?_<;>simp only[go_sem]<;>simp
   .have hx:xs[i]≠0:=by omega
    rw[zgW (by rw[List.getLast?_concat];simp[hx]),<-Zd Y6]at YK
    (iterate 3((try simp only[go_sem,show(0:Int)<=(i:Int)+1 by omega,show((i:Int)+1).toNat=i+1 by omega]);try simp(disch:=omega)only[Q6,QE,QG,Q8,X7,show(0:Int)<=(i:Int)+1 by omega,show((i:Int)+1).toNat=i+1 by omega]))
    rw[<-YK];exact⟨by first|exact hi|exact⟨Qk _,hi⟩,Yr⟩
theorem zxi(n:Nat)(hn:n<18446744073709551616):Q9 prog 43 [tI .u64 n] (tN (dig n)):=by
 refine QJ QC call43 func43 rfl ntmps43 results43 (by simp) (by decide) ?_;simp only[go_sem];have PY:(dig n).length<=3:=zbJ (by simp only[BB];omega);refine QK (fun p:Nat×List Nat=>match p.2 with
   |[]=>stL 15 [(0,litI .u64 p.1),(3,.one (.t (.seq (some true) [])))] []
   |_::_=>stL 15 [(0,litI .u64 p.1),(3,.one (.vec 11 1 0 p.2.length))] [(11,cN p.2)]) (fun p=>p.1<=n/\p.2++dig p.1=dig n) (fun p=>p.1) (n,[]) ?_ ⟨Qd _,rfl⟩ ?_
 .refine Q7 rfl ?_ ?_ rfl rfl<;>simp only[go_sem]<;>simp
 .rintro⟨m,l⟩ ⟨hm,Yy⟩
  simp only at hm Yy;have Y0:l.length<=3:=by have:=congrArg List.length Yy;simp at this;omega
  by_cases h0:m=0
  .subst h0
   rw[Zi,wal]at Yy;rw[<-Yy];cases l with
   |nil=>simp only[go_sem];exact zcz
   |cons x t=>simp only[go_sem];exact zf7 Z4 (by simp only[go_sem]) rfl
  .have YQ:(0:Int)<(m:Int):=by omega
   have hw:m/1000000000<=m:=wci _ _;have KL:m%1000000000<1000000000:=wav _ (by decide);cases l with
   |nil =>
    (iterate 3((try simp only[go_sem,YQ,Zu]);try simp(disch:=omega)only[QG]))
    refine zcr (Qd _) (sz:=1) (bytes:=4) (by simp only[go_sem,QV]<;>decide) Z4 [m%1000000000] (by simp only[go_sem]<;>rfl) (by simp only[go_sem]<;>rfl) rfl (by simp) (by simp) (by simp only[go_sem]) (by decide) ?_
    (iterate 3((try simp only[go_sem,QS]);try simp(disch:=omega)only[QE]))
    refine⟨(m/1000000000,[m%1000000000]),⟨by omega,?_⟩,by show m/1000000000<m;omega,?_⟩
    .rw[<-Yy];simp only[wbw];rw[zce h0];rfl
    .refine Q7 rfl ?_ ?_ rfl ?_<;>simp only[go_sem,QH]<;>simp
   |cons x t =>
    (iterate 3((try simp only[go_sem,YQ,Zu]);try simp(disch:=omega)only[QG]))
    refine zay (Qd _) (sz:=1) (bytes:=4) (by simp only[go_sem,QV]<;>decide) Z4 (x::t) [m%1000000000] (by simp only[go_sem]<;>rfl) rfl (by simp only[go_sem]) (by simp only[go_sem]<;>rfl) rfl (by simp only[Qe]at *;simp;omega) (by decide) ?_
    (iterate 3((try simp only[go_sem,QS]);try simp(disch:=omega)only[QE]))
    refine⟨(m/1000000000,x::t++[m%1000000000]),⟨by omega,?_⟩,by show m/1000000000<m;omega,?_⟩
    .rw[<-Yy,zce h0];simp
    .refine Q7 rfl ?_ ?_ rfl ?_<;>simp only[go_sem,QH]<;>simp
theorem zt8(x y:List Nat)(ha:x.length<30000000000000)(hb:y.length<30000000000000):Q9 prog 49 [tN x,tN y] (tB (decide (x=y))):=by
 refine QJ QC call49 func49 rfl ntmps49 results49 (by simp) (by decide) ?_;simp only[go_sem];refine QI (fun h=>?_) (fun h=>?_)
 .simp only[go_sem]
  symm;simp only[decide_eq_false_iff_not];rintro rfl;simp at h
 .have Y0:x.length=y.length:=by omega
  simp only[go_sem];refine QK (fun i:Nat=>stL 26 [(0,aN x),(1,aN y),(5,litI .i64 i)] []) (fun i=>i<=x.length/\x.take i=y.take i) (fun i=>x.length-i) 0 ?_ ⟨Qk _,rfl⟩ ?_
  .refine Q7 rfl ?_ ?_ rfl rfl<;>simp only[go_sem]<;>simp
  .rintro i ⟨hi,YK⟩
   simp only[go_sem];refine QI (fun Yw=>?_) (fun YG=>?_)
   .have hx:i<x.length:=by omega
    have hy:i<y.length:=by omega
    simp only[go_sem];refine Q4 0 rfl ?_;simp only[go_sem,Q8 hx,Q8 hy];refine⟨⟨by omega,by omega⟩,⟨by omega,by omega⟩,QI (fun h=>?_) (fun h=>?_)⟩
    .simp only[go_sem]
     symm;simp only[decide_eq_false_iff_not];rintro rfl;exact h rfl
    .simp only[go_sem]
     refine⟨i+1,⟨hx,?_⟩,(by show x.length-(i+1)<x.length-i;omega),?_⟩
     .rw[Zd hx,Zd hy,YK,show x[i]=y[i] by omega]
     .refine Q7 rfl ?_ ?_ rfl rfl<;>simp only[go_sem,Q6 (n:=(i:Int)+1) (by omega) (by omega)]<;>simp
   .obtain rfl:i=x.length:=by omega
    rw[Q1,Y0,Q1]at YK;simp only[go_sem];simp[YK]
theorem zoJ(a b:List Nat)(ha:a.length<30000000000000)(hb:b.length<30000000000000):Q9 prog 47 [tN a,tN b] (tI .i64 (QY (vN a) (vN b))):=by
 refine QJ QC call47 func47 rfl ntmps47 results47 (by simp) (by decide) ?_;simp only[go_sem];refine Q3 (zeK a ha) rfl ?_;simp only[go_sem];refine Q3 (zeK b hb) rfl ?_;have FF:=zan a;have JJ:=zan b;have hA:=zag a;have hB:=zag b;unfold vN;generalize held a=x at *
 generalize held b=y at *
 simp only[go_sem];refine QI (fun h=>?_) (fun h=>?_)
 .simp only[go_sem]
  refine QI (fun h'=>?_) (fun h'=>?_)
  .have:=zdC hA hB (by omega)
   simp only[go_sem];unfold QY;rw[Qc (by omega)]
  .have:=zdC hB hA (by omega)
   simp only[go_sem];unfold QY;rw[Qb (by omega),Qc (by omega)]
 .have Y0:x.length=y.length:=by omega
  simp only[go_sem];refine QK (fun k:Nat=>stL 47 [(5,aN x),(6,aN y),(7,litI .i64 ((k:Int)-1))] []) (fun k=>k<=x.length/\x.drop k=y.drop k) (fun k=>k) x.length ?_ ⟨Qd _,by rw[wa5,Y0,wa5]⟩ ?_
  .refine Q7 rfl ?_ ?_ rfl rfl<;>simp only[go_sem,Q6 (n:=(x.length:Int)-1) (by omega) (by omega)]<;>simp
  .rintro k ⟨hk,hd⟩
   simp only[go_sem];refine QI (fun Yw=>?_) (fun YG=>?_)
   .obtain⟨i,rfl⟩:∃ i,k=i+1:=⟨k-1,by omega⟩
    have hx:i<x.length:=by omega
    have hy:i<y.length:=by omega
    have e:((i:Int)+1-1)=i:=by omega
    simp only[go_sem,e];refine Q4 0 rfl ?_
    (iterate 3((try simp only[go_sem]);try simp(disch:=omega)only[Q8]))
    refine⟨by omega,by omega,QI (fun h=>?_) (fun h=>?_)⟩
    .simp only[go_sem]
     have:=zfS hA.1 hx hy hd (by omega);unfold QY;rw[Qc (by omega)]
    .simp only[go_sem]
     refine Q4 0 rfl ?_
     (iterate 3((try simp only[go_sem]);try simp(disch:=omega)only[Q8]))
     refine⟨by omega,by omega,QI (fun h'=>?_) (fun h'=>?_)⟩
     .simp only[go_sem]
      have:=zfS hB.1 hy hx hd.symm (by omega);unfold QY;rw[Qb (by omega),Qc (by omega)]
     .simp only[go_sem]
      refine⟨i,⟨by omega,?_⟩,waN i,?_⟩
      .rw[waw hx,waw hy,hd,show x[i]=y[i] by omega]
      .refine Q7 rfl ?_ ?_ rfl rfl<;>simp only[go_sem,Q6 (n:=(i:Int)-1) (by omega) (by omega)]<;>simp
   .have Vd:k=0:=by omega
    subst Vd;simp only[go_sem];have:x=y:=by simpa using hd
    subst this;unfold QY;rw[Qb (by omega),Qb (by omega)]
theorem zwF(xs:List Nat)(low:Nat)(hl:xs.length<10000000000000):Q9 prog 69 [tN xs,tI .u32 low] (tN (trimZ (low::xs))):=by
 refine QJ QC call69 func69 rfl ntmps69 results69 (by simp) (by decide) ?_;simp only[go_sem];refine zkx 6 1 [.t (.lit (.int .u32 0))] (cs:=cN [low]) rfl (Qd _) (by simp only[go_sem]<;>decide) (by simp only[go_sem]<;>rfl) (by simp only[go_sem]) (by decide) ?_;simp only[go_sem];refine zay (Qd _) (sz:=1) (bytes:=4) (by simp only[go_sem,QV]<;>decide) Z4 [low] xs (by simp only[go_sem]<;>rfl) rfl (by simp only[go_sem]<;>rfl) (by simp only[go_sem]<;>rfl) rfl (by simp;omega) (by decide) ?_;simp only[go_sem];refine zbM 6 1 (xs.length+1) rfl (zgy (low::xs) (by simp;omega)) (by simp only[go_sem]<;>rfl) (by rw[show xs.length+1=(low::xs).length from rfl];exact Yl Z4) ?_ ?_
 .simp only[go_sem]<;>rfl
 .simp only[go_sem]
  exact Yr
def zgs(x:List Nat)(m i:Nat)(ds:List Nat)(c:Nat):Prop:=ds.length=i/\(∀ z∈ds,z<BB)/\c<BB/\val ds+BB^i*c=m*val (x.take i)
theorem zgs.next{x ds:List Nat}{m i c t:Nat}(h:zgs x m i ds c)(hx:∀ z∈x,z<BB)(hm:m<BB)(ht:t=c+x.getD i 0*m):zgs x m (i+1) (ds++[t%BB]) (t/BB):=by
 obtain⟨h1,h2,h3,h4⟩:=h;have UZ:x.getD i 0<BB:=by
  by_cases h:i<x.length
  .simp[h];exact hx _ (Qh h)
  .simp[show x.length<=i by omega,BB]
 refine⟨by simp[h1],fun z hz=>?_,?_,?_⟩
 .rcases wan.1 hz with hz|hz
  .exact h2 z hz
  .simp at hz;subst hz;exact wav _ (by decide)
 .have:x.getD i 0*m<=999999999*999999999:=waB (by simp only[BB]at UZ;omega) (by simp only[BB]at hm;omega)
  simp only[BB]at h3 ⊢;omega
 .rw[za0,zek,h1,waP,wae,waf,<-h4]
  have e4:=congrArg (BB^i*·) ((wck t BB).trans ht);simp only[waf]at e4;simp only[val,waR,wap];have e5:m*(BB^i*x.getD i 0)=BB^i*(x.getD i 0*m):=by rw[Qt m,wae]
  rw[e5];omega
theorem zgs.done{x ds:List Nat}{m i:Nat}(h:zgs x m i ds 0)(hi:x.length<=i):trimZ ds=dig (m*val x):=by
 obtain⟨h1,h2,h3,h4⟩:=h;rw[waL hi,waR,wap]at h4;rw[zcH h2,h4]
theorem zwG(x:List Nat)(m:Nat)(hl:x.length<10000000000000)(hx:∀ z∈x,z<BB)(hm:m<BB):Q9 prog 70 [tN x,tI .u64 m] (tN (dig (m*val x))):=by
 refine QJ QC call70 func70 rfl ntmps70 results70 (by simp) (by decide) ?_;simp only[go_sem];have JG:=hm;simp only[BB]at JG;refine QK (fun p:List Nat×Nat=>match p.1 with
   |[]=>stL 41 [(0,aN x),(1,litI .u64 m),(5,.one (.t (.seq (some true) []))),(6,litI .u64 p.2),(7,litI .i64 0)] []
   |_::_=>stL 41 [(0,aN x),(1,litI .u64 m),(5,.one (.vec 36 1 0 p.1.length)),(6,litI .u64 p.2),(7,litI .i64 p.1.length)] [(36,cN p.1)])
  (fun p=>p.1.length<=x.length+1/\zgs x m p.1.length p.1 p.2/\(x.length<p.1.length->p.2=0)) (fun p=>x.length+1-p.1.length) ([],0) ?_ ⟨Qk _,⟨rfl,by simp,by decide,by simp[val]⟩,fun _=>rfl⟩ ?_
 .refine Q7 rfl ?_ ?_ rfl ?_<;>simp only[go_sem]<;>simp
 .rintro⟨ds,c⟩ ⟨Vn,hs,hz⟩
  simp only at Vn hs hz;by_cases Yw:ds.length<x.length
  .have YD:(ds.length:Int)<(x.length:Int):=by omega
   have VC:=hx _ (Qh Yw);simp only[BB]at VC;have hc:=hs.2.2.1;simp only[BB]at hc;have WH:x[ds.length]*m<=999999999*999999999:=waB (by omega) (by omega);have et:(c:Int)+(x[ds.length]:Int)*(m:Int)=((c+x[ds.length]*m:Nat):Int):=by omega
   have Y1:QM Zo x ds.length=Zo x[ds.length]:=Q8 Yw;have Yx:=hs.next hx hm (t:=c+x[ds.length]*m) (by simp[Yw]);generalize c+x[ds.length]*m=t at *
   generalize x[ds.length]=xi at *
   have Kc:t%1000000000<1000000000:=wav _ (by decide);cases ds with
   |nil =>
    simp only[Qi]at *
    have YD:(0:Int)<(x.length:Int):=by omega
    (iterate 3((try simp only[go_sem,YD,Y1]);try simp(disch:=omega)only[QE,QG,et,Zu]))
    refine zcr (Qd _) (sz:=1) (bytes:=4) (by simp only[go_sem,QV]<;>decide) Z4 [t%1000000000] (by simp only[go_sem]<;>rfl) (by simp only[go_sem]<;>rfl) rfl (by simp) (by simp) (by simp only[go_sem]) (by decide) ?_
    (iterate 3((try simp only[go_sem,QS]);try simp(disch:=omega)only[Q6,QE]))
    refine⟨(([]:List Nat)++[t%1000000000],t/1000000000),⟨by simp only[Qj,Qe,Qi]at *;omega,by simpa[BB]using Yx,fun h=>by simp only[Qj,Qe,Qi]at h;omega⟩,(by show x.length+1-(([]:List Nat)++[t%1000000000]).length<x.length+1-([]:List Nat).length;simp only[Qj,Qe,Qi]at *;omega),?_⟩;refine Q7 rfl ?_ ?_ rfl ?_<;>(iterate 3((try simp only[go_sem,QH,Qe,Qi]);try simp(disch:=omega)only[Q6,QE,QG,Q8,QH,Qj,Qe,Qi]))<;>simp
   |cons d0 l =>
    simp only[Qe]at *
    have YD:(l.length:Int)+1<(x.length:Int):=by omega
    have VS:((l.length:Int)+1).toNat=l.length+1:=by omega
    (iterate 3((try simp only[go_sem,YD,VS,Y1]);try simp(disch:=omega)only[QE,QG,et,Zu]))
    refine⟨by omega,?_⟩;refine zay (Qd _) (sz:=1) (bytes:=4) (by simp only[go_sem,QV]<;>decide) Z4 (d0::l) [t%1000000000] (by simp only[go_sem]<;>rfl) rfl (by simp only[go_sem]) (by simp only[go_sem]<;>rfl) rfl (by simp only[Qe]at *;simp;omega) (by decide) ?_
    (iterate 3((try simp only[go_sem,QS]);try simp(disch:=omega)only[Q6,QE]))
    refine⟨((d0::l)++[t%1000000000],t/1000000000),⟨by simp only[Qj,Qe,Qi]at *;omega,by simpa[BB]using Yx,fun h=>by simp only[Qj,Qe,Qi]at h;omega⟩,(by show x.length+1-((d0::l)++[t%1000000000]).length<x.length+1-(d0::l).length;simp only[Qj,Qe,Qi]at *;omega),?_⟩;refine Q7 rfl ?_ ?_ rfl ?_<;>(iterate 3((try simp only[go_sem,QH,Qj,Qe,Qi]);try simp(disch:=omega)only[Q6,QE,QG,Q8,QH,Qj,Qe,Qi]))<;>simp
  .by_cases XT:c=0
   .subst XT
    have Vx:=hs.done (by omega);cases ds with
    |nil =>
     simp only[Qi]at *
     have YD:¬(0:Int)<(x.length:Int):=by omega
     (iterate 3((try simp only[go_sem,YD]);try simp(disch:=omega)only[Q6,QE,QG,Q8,YD]))
     refine zf9 (tvs':=[.one (.seq (some true) [])]) (zgy [] (by simp)) rfl (.cons fzW .nil) ?_;simp only[go_sem];rw[Vx];exact Yr
    |cons d0 l =>
     have YD:¬(l.length:Int)+1<(x.length:Int):=by simp only[Qe]at Yw;omega
     (iterate 3((try simp only[go_sem,YD]);try simp(disch:=omega)only[Q6,QE,QG,Q8,YD]))
     refine zbM 36 1 (l.length+1) rfl (zgy (d0::l) (by simp only[Qe]at *;omega)) (by simp only[go_sem]<;>rfl) (by rw[show l.length+1=(d0::l).length from rfl];exact Yl Z4) ?_ ?_
     .simp only[go_sem]<;>rfl
     .simp only[go_sem]
      rw[Vx];exact Yr
   .have L8:ds.length=x.length:=by
     rcases was x.length ds.length with h|h
     .exact Qo (hz h) XT
     .omega
    have hc:=hs.2.2.1;simp only[BB]at hc;have JL:(0:Int)<(c:Int):=by omega
    have Yx:=hs.next hx hm (t:=c) (by simp[show x.length<=ds.length by omega]);obtain⟨t,ht⟩:∃ t,t=c:=⟨c,rfl⟩
    have E6:(c:Int)=(t:Int):=by omega
    have Kl:t/1000000000=0:=wbm (by omega);rw[<-ht]at Yx;have Kc:t%1000000000<1000000000:=wav _ (by decide);cases ds with
    |nil =>
     simp only[Qi]at *
     have YD:¬(0:Int)<(x.length:Int):=by omega
     have Kd:(0:Int)<(t:Int):=by omega
     (iterate 3((try simp only[go_sem,YD,E6,Kd,Zu]);try simp(disch:=omega)only[QG]))
     refine zcr (Qd _) (sz:=1) (bytes:=4) (by simp only[go_sem,QV]<;>decide) Z4 [t%1000000000] (by simp only[go_sem]<;>rfl) (by simp only[go_sem]<;>rfl) rfl (by simp) (by simp) (by simp only[go_sem]) (by decide) ?_
     (iterate 3((try simp only[go_sem,QS]);try simp(disch:=omega)only[Q6,QE]))
     refine⟨(([]:List Nat)++[t%1000000000],t/1000000000),⟨by simp only[Qj,Qe,Qi]at *;omega,by simpa[BB]using Yx,fun _=>Kl⟩,(by show x.length+1-(([]:List Nat)++[t%1000000000]).length<x.length+1-([]:List Nat).length;simp only[Qj,Qe,Qi]at *;omega),?_⟩;refine Q7 rfl ?_ ?_ rfl ?_<;>(iterate 3((try simp only[go_sem,QH,Qe,Qi]);try simp(disch:=omega)only[Q6,QE,QG,Q8,QH,Qj,Qe,Qi]))<;>simp
    |cons d0 l =>
     simp only[Qe]at *
     have YD:¬(l.length:Int)+1<(x.length:Int):=by omega
     have Kd:(0:Int)<(t:Int):=by omega
     (iterate 3((try simp only[go_sem,YD,E6,Kd,Zu]);try simp(disch:=omega)only[QG]))
     refine zay (Qd _) (sz:=1) (bytes:=4) (by simp only[go_sem,QV]<;>decide) Z4 (d0::l) [t%1000000000] (by simp only[go_sem]<;>rfl) rfl (by simp only[go_sem]) (by simp only[go_sem]<;>rfl) rfl (by simp only[Qe]at *;simp;omega) (by decide) ?_
     (iterate 3((try simp only[go_sem,QS]);try simp(disch:=omega)only[Q6,QE]))
     refine⟨((d0::l)++[t%1000000000],t/1000000000),⟨by simp only[Qj,Qe,Qi]at *;omega,by simpa[BB]using Yx,fun _=>Kl⟩,(by show x.length+1-((d0::l)++[t%1000000000]).length<x.length+1-(d0::l).length;simp only[Qj,Qe,Qi]at *;omega),?_⟩;refine Q7 rfl ?_ ?_ rfl ?_<;>(iterate 3((try simp only[go_sem,QH,Qj,Qe,Qi]);try simp(disch:=omega)only[Q6,QE,QG,Q8,QH,Qj,Qe,Qi]))<;>simp
theorem zd6.fin{x y ds:List Nat}{k:Nat}(hs:zd6 [x,y] k ds 0)(h:∀ a∈[x,y],∀ z∈a,z<BB)(hx:x.length<=k)(hy:y.length<=k):trimZ ds=dig (val x+val y):=by
 obtain⟨h1,h2,h3,h4⟩:=hs;rw[waR,wap]at h4;rw[zcH h2,h4];simp[low,waL hx,waL hy]
theorem zn4(a b:List Nat)(ha:a.length<5000000000000)(hb:b.length<5000000000000):Q9 prog 45 [tN a,tN b] (tN (dig (vN a+vN b))):=by
 refine QJ QC call45 func45 rfl ntmps45 results45 (by simp) (by decide) ?_;simp only[go_sem];refine Q3 (zeK a (by omega)) rfl ?_;simp only[go_sem];refine Q3 (zeK b (by omega)) rfl ?_;have UW:=zan a;have VU:=zan b;have hX:=zag a;have hY:=zag b;unfold vN;generalize held a=x at *
 generalize held b=y at *
 have hx:=hX.1;have hy:=hY.1;have FG:∀ z∈[x,y],∀ w∈z,w<BB:=fun z hz=>by
  rcases wab.1 hz with rfl|hz
  .exact hx
  .obtain rfl:=Qr.1 hz;exact hy
 obtain⟨M,hM⟩:∃ M,M=max x.length y.length:=⟨_,rfl⟩
 have eM:(if(y.length:Int)>(x.length:Int)then(y.length:Int)else(x.length:Int))=(M:Int):=by split<;>omega
 simp only[go_sem];refine QK (fun p:List Nat×Nat=>match p.1 with
   |[]=>stL 59 [(5,aN x),(6,aN y),(7,.one (.t (.seq (some true) []))),(8,litI .u64 p.2),(9,litI .i64 0)] []
   |_::_=>stL 59 [(5,aN x),(6,aN y),(7,.one (.vec 54 1 0 p.1.length)),(8,litI .u64 p.2),(9,litI .i64 p.1.length)] [(54,cN p.1)])
  (fun p=>p.1.length<=M+1/\zd6 [x,y] p.1.length p.1 p.2/\(M<p.1.length->p.2=0)) (fun p=>M+1-p.1.length) ([],0) ?_ ⟨Qk _,⟨rfl,by simp,Qk _,by rw[Qi,zn1];rfl⟩,fun _=>rfl⟩ ?_
 .refine Q7 rfl ?_ ?_ rfl ?_<;>simp only[go_sem]<;>simp
 .rintro⟨ds,c⟩ ⟨Vn,hs,hz⟩
  simp only at Vn hs hz;have Kb:c<=2:=hs.2.2.1;have Yx:=hs.next FG;cases ds with
  |nil =>
   simp only[Qi]at *
   simp only[go_sem];refine zdK rfl (by simp only[go_sem]<;>rfl) (by simp only[go_sem]<;>rfl) (Qd _) ?_;rw[eM];by_cases Yw:0<M
   .have YD:(0:Int)<(M:Int):=by omega
    by_cases ha:0<x.length
    .by_cases hb:0<y.length
     ·
      have V2:(0:Int)<(x.length:Int):=by omega
      have Xj:(0:Int)<(y.length:Int):=by omega
      have VC:=hx _ (Qh ha);have Y1:QM Zo x (0)=Zo x[0]:=Q8 ha;simp only[BB]at VC;have Wd:=hy _ (Qh hb);have YI:QM Zo y (0)=Zo y[0]:=Q8 hb;simp only[BB]at Wd;have gx:x.getD (0) 0=x[0]:=by simp[ha]
      generalize x[0]=xi at *
      have gy:y.getD (0) 0=y[0]:=by simp[hb]
      generalize y[0]=yi at *
      obtain⟨t,ht⟩:∃ t,t=c+xi+yi:=⟨_,rfl⟩
      have et:(c:Int)+(xi:Int)+(yi:Int)=(t:Int):=by omega
      have Xp:c+col [x,y] (0)=t:=by simp only[col,waq,waH,wbu,wce,gx,gy];omega
      rw[Xp]at Yx;have WD:t<1000000000000:=by omega
      have Kc:t%1000000000<1000000000:=wav _ (by decide)
      (iterate 3((try simp only[go_sem,YD,V2,Xj,Y1,YI]);try simp(disch:=omega)only[QE,QG,et,Zu]))
      refine zcr (Qd _) (sz:=1) (bytes:=4) (by simp only[go_sem,QV]<;>decide) Z4 [t%1000000000] (by simp only[go_sem]<;>rfl) (by simp only[go_sem]<;>rfl) rfl (by simp) (by simp) (by simp only[go_sem]) (by decide) ?_
      (iterate 3((try simp only[go_sem,QS]);try simp(disch:=omega)only[Q6,QE]))
      refine⟨(([]:List Nat)++[t%1000000000],t/1000000000),⟨by simp only[Qj,Qe,Qi]at *;omega,by simpa[BB]using Yx,fun h=>by simp only[Qj,Qe,Qi]at *;omega⟩,(by show M+1-(([]:List Nat)++[t%1000000000]).length<M+1-([]:List Nat).length;simp only[Qj,Qe,Qi]at *;omega),?_⟩;refine Q7 rfl ?_ ?_ rfl ?_<;>(iterate 3((try simp only[go_sem,QH,Qe,Qi]);try simp(disch:=omega)only[Q6,QE,QG,Q8,QH,Qj,Qe,Qi]))<;>simp
     ·
      have V2:(0:Int)<(x.length:Int):=by omega
      have Xj:¬(0:Int)<(y.length:Int):=by omega
      have VC:=hx _ (Qh ha);have Y1:QM Zo x (0)=Zo x[0]:=Q8 ha;simp only[BB]at VC;have gx:x.getD (0) 0=x[0]:=by simp[ha]
      generalize x[0]=xi at *
      have gy:y.getD (0) 0=0:=by simp[show y.length<=0 by omega]
      obtain⟨t,ht⟩:∃ t,t=c+xi:=⟨_,rfl⟩
      have et:(c:Int)+(xi:Int)=(t:Int):=by omega
      have Xp:c+col [x,y] (0)=t:=by simp only[col,waq,waH,wbu,wce,gx,gy];omega
      rw[Xp]at Yx;have WD:t<1000000000000:=by omega
      have Kc:t%1000000000<1000000000:=wav _ (by decide)
      (iterate 3((try simp only[go_sem,YD,V2,Xj,Y1]);try simp(disch:=omega)only[QE,QG,et,Zu]))
      refine zcr (Qd _) (sz:=1) (bytes:=4) (by simp only[go_sem,QV]<;>decide) Z4 [t%1000000000] (by simp only[go_sem]<;>rfl) (by simp only[go_sem]<;>rfl) rfl (by simp) (by simp) (by simp only[go_sem]) (by decide) ?_
      (iterate 3((try simp only[go_sem,QS]);try simp(disch:=omega)only[Q6,QE]))
      refine⟨(([]:List Nat)++[t%1000000000],t/1000000000),⟨by simp only[Qj,Qe,Qi]at *;omega,by simpa[BB]using Yx,fun h=>by simp only[Qj,Qe,Qi]at *;omega⟩,(by show M+1-(([]:List Nat)++[t%1000000000]).length<M+1-([]:List Nat).length;simp only[Qj,Qe,Qi]at *;omega),?_⟩;refine Q7 rfl ?_ ?_ rfl ?_<;>(iterate 3((try simp only[go_sem,QH,Qe,Qi]);try simp(disch:=omega)only[Q6,QE,QG,Q8,QH,Qj,Qe,Qi]))<;>simp
    .have hb:0<y.length:=by omega
     have V2:¬(0:Int)<(x.length:Int):=by omega
     have Xj:(0:Int)<(y.length:Int):=by omega
     have Wd:=hy _ (Qh hb);have YI:QM Zo y (0)=Zo y[0]:=Q8 hb;simp only[BB]at Wd;have gx:x.getD (0) 0=0:=by simp[show x.length<=0 by omega]
     have gy:y.getD (0) 0=y[0]:=by simp[hb]
     generalize y[0]=yi at *
     obtain⟨t,ht⟩:∃ t,t=c+yi:=⟨_,rfl⟩
     have et:(c:Int)+(yi:Int)=(t:Int):=by omega
     have Xp:c+col [x,y] (0)=t:=by simp only[col,waq,waH,wbu,wce,gx,gy];omega
     rw[Xp]at Yx;have WD:t<1000000000000:=by omega
     have Kc:t%1000000000<1000000000:=wav _ (by decide)
     (iterate 3((try simp only[go_sem,YD,V2,Xj,YI]);try simp(disch:=omega)only[QE,QG,et,Zu]))
     refine zcr (Qd _) (sz:=1) (bytes:=4) (by simp only[go_sem,QV]<;>decide) Z4 [t%1000000000] (by simp only[go_sem]<;>rfl) (by simp only[go_sem]<;>rfl) rfl (by simp) (by simp) (by simp only[go_sem]) (by decide) ?_
     (iterate 3((try simp only[go_sem,QS]);try simp(disch:=omega)only[Q6,QE]))
     refine⟨(([]:List Nat)++[t%1000000000],t/1000000000),⟨by simp only[Qj,Qe,Qi]at *;omega,by simpa[BB]using Yx,fun h=>by simp only[Qj,Qe,Qi]at *;omega⟩,(by show M+1-(([]:List Nat)++[t%1000000000]).length<M+1-([]:List Nat).length;simp only[Qj,Qe,Qi]at *;omega),?_⟩;refine Q7 rfl ?_ ?_ rfl ?_<;>(iterate 3((try simp only[go_sem,QH,Qe,Qi]);try simp(disch:=omega)only[Q6,QE,QG,Q8,QH,Qj,Qe,Qi]))<;>simp
   .have YD:¬(0:Int)<(M:Int):=by omega
    by_cases XT:c=0
    .subst XT
     have Vx:=hs.fin FG (by omega) (by omega)
     (iterate 3((try simp only[go_sem,YD]);try simp(disch:=omega)only[Q6,QE,QG,Q8,YD]))
     refine zf9 (tvs':=[.one (.seq (some true) [])]) (zgy [] (by simp)) rfl (.cons fzW .nil) ?_;simp only[go_sem];rw[Vx];exact Yr
    .have L8:0=M:=by
      rcases was M (0)with h|h
      .exact Qo (hz h) XT
      .omega
     have V2:¬(0:Int)<(x.length:Int):=by omega
     have Xj:¬(0:Int)<(y.length:Int):=by omega
     have gx:x.getD (0) 0=0:=by simp[show x.length<=0 by omega]
     have gy:y.getD (0) 0=0:=by simp[show y.length<=0 by omega]
     obtain⟨t,ht⟩:∃ t,t=c:=⟨_,rfl⟩
     have et:(c:Int)=(t:Int):=by omega
     have Xp:c+col [x,y] (0)=t:=by simp only[col,waq,waH,wbu,wce,gx,gy];omega
     rw[Xp]at Yx;have WD:t<1000000000000:=by omega
     have Kc:t%1000000000<1000000000:=wav _ (by decide);have O6:t/1000000000=0:=wbm (by omega);have JL:(0:Int)<(c:Int):=by omega
     have Kd:(0:Int)<(t:Int):=by omega
     (iterate 3((try simp only[go_sem,YD,V2,Xj,Kd,et,Zu]);try simp(disch:=omega)only[QG]))
     refine zcr (Qd _) (sz:=1) (bytes:=4) (by simp only[go_sem,QV]<;>decide) Z4 [t%1000000000] (by simp only[go_sem]<;>rfl) (by simp only[go_sem]<;>rfl) rfl (by simp) (by simp) (by simp only[go_sem]) (by decide) ?_
     (iterate 3((try simp only[go_sem,QS]);try simp(disch:=omega)only[Q6,QE]))
     refine⟨(([]:List Nat)++[t%1000000000],t/1000000000),⟨by simp only[Qj,Qe,Qi]at *;omega,by simpa[BB]using Yx,fun h=>by simp only[Qj,Qe,Qi]at *;omega⟩,(by show M+1-(([]:List Nat)++[t%1000000000]).length<M+1-([]:List Nat).length;simp only[Qj,Qe,Qi]at *;omega),?_⟩;refine Q7 rfl ?_ ?_ rfl ?_<;>(iterate 3((try simp only[go_sem,QH,Qe,Qi]);try simp(disch:=omega)only[Q6,QE,QG,Q8,QH,Qj,Qe,Qi]))<;>simp
  |cons d0 l =>
   simp only[Qe]at *
   simp only[go_sem];refine zdK rfl (by simp only[go_sem]<;>rfl) (by simp only[go_sem]<;>rfl) (Qd _) ?_;rw[eM];have VS:((l.length:Int)+1).toNat=l.length+1:=by omega
   by_cases Yw:l.length+1<M
   .have YD:(l.length:Int)+1<(M:Int):=by omega
    by_cases ha:l.length+1<x.length
    .by_cases hb:l.length+1<y.length
     ·
      have V2:(l.length:Int)+1<(x.length:Int):=by omega
      have Xj:(l.length:Int)+1<(y.length:Int):=by omega
      have VC:=hx _ (Qh ha);have Y1:QM Zo x (l.length+1)=Zo x[l.length+1]:=Q8 ha;simp only[BB]at VC;have Wd:=hy _ (Qh hb);have YI:QM Zo y (l.length+1)=Zo y[l.length+1]:=Q8 hb;simp only[BB]at Wd;have gx:x.getD (l.length+1) 0=x[l.length+1]:=by simp[ha]
      generalize x[l.length+1]=xi at *
      have gy:y.getD (l.length+1) 0=y[l.length+1]:=by simp[hb]
      generalize y[l.length+1]=yi at *
      obtain⟨t,ht⟩:∃ t,t=c+xi+yi:=⟨_,rfl⟩
      have et:(c:Int)+(xi:Int)+(yi:Int)=(t:Int):=by omega
      have Xp:c+col [x,y] (l.length+1)=t:=by simp only[col,waq,waH,wbu,wce,gx,gy];omega
      rw[Xp]at Yx;have WD:t<1000000000000:=by omega
      have Kc:t%1000000000<1000000000:=wav _ (by decide)
      (iterate 3((try simp only[go_sem,YD,V2,Xj,Y1,YI,VS]);try simp(disch:=omega)only[QE,QG,et,Zu]))
      refine⟨by omega,by omega,?_⟩;refine zay (Qd _) (sz:=1) (bytes:=4) (by simp only[go_sem,QV]<;>decide) Z4 (d0::l) [t%1000000000] (by simp only[go_sem]<;>rfl) rfl (by simp only[go_sem]) (by simp only[go_sem]<;>rfl) rfl (by simp only[Qe]at *;simp;omega) (by decide) ?_
      (iterate 3((try simp only[go_sem,QS]);try simp(disch:=omega)only[Q6,QE]))
      refine⟨((d0::l)++[t%1000000000],t/1000000000),⟨by simp only[Qj,Qe,Qi]at *;omega,by simpa[BB]using Yx,fun h=>by simp only[Qj,Qe,Qi]at *;omega⟩,(by show M+1-((d0::l)++[t%1000000000]).length<M+1-(d0::l).length;simp only[Qj,Qe,Qi]at *;omega),?_⟩;refine Q7 rfl ?_ ?_ rfl ?_<;>(iterate 3((try simp only[go_sem,QH,Qj,Qe,Qi]);try simp(disch:=omega)only[Q6,QE,QG,Q8,QH,Qj,Qe,Qi]))<;>simp
     ·
      have V2:(l.length:Int)+1<(x.length:Int):=by omega
      have Xj:¬(l.length:Int)+1<(y.length:Int):=by omega
      have VC:=hx _ (Qh ha);have Y1:QM Zo x (l.length+1)=Zo x[l.length+1]:=Q8 ha;simp only[BB]at VC;have gx:x.getD (l.length+1) 0=x[l.length+1]:=by simp[ha]
      generalize x[l.length+1]=xi at *
      have gy:y.getD (l.length+1) 0=0:=by simp[show y.length<=l.length+1 by omega]
      obtain⟨t,ht⟩:∃ t,t=c+xi:=⟨_,rfl⟩
      have et:(c:Int)+(xi:Int)=(t:Int):=by omega
      have Xp:c+col [x,y] (l.length+1)=t:=by simp only[col,waq,waH,wbu,wce,gx,gy];omega
      rw[Xp]at Yx;have WD:t<1000000000000:=by omega
      have Kc:t%1000000000<1000000000:=wav _ (by decide)
      (iterate 3((try simp only[go_sem,YD,V2,Xj,Y1,VS]);try simp(disch:=omega)only[QE,QG,et,Zu]))
      refine⟨by omega,?_⟩;refine zay (Qd _) (sz:=1) (bytes:=4) (by simp only[go_sem,QV]<;>decide) Z4 (d0::l) [t%1000000000] (by simp only[go_sem]<;>rfl) rfl (by simp only[go_sem]) (by simp only[go_sem]<;>rfl) rfl (by simp only[Qe]at *;simp;omega) (by decide) ?_
      (iterate 3((try simp only[go_sem,QS]);try simp(disch:=omega)only[Q6,QE]))
      refine⟨((d0::l)++[t%1000000000],t/1000000000),⟨by simp only[Qj,Qe,Qi]at *;omega,by simpa[BB]using Yx,fun h=>by simp only[Qj,Qe,Qi]at *;omega⟩,(by show M+1-((d0::l)++[t%1000000000]).length<M+1-(d0::l).length;simp only[Qj,Qe,Qi]at *;omega),?_⟩;refine Q7 rfl ?_ ?_ rfl ?_<;>(iterate 3((try simp only[go_sem,QH,Qj,Qe,Qi]);try simp(disch:=omega)only[Q6,QE,QG,Q8,QH,Qj,Qe,Qi]))<;>simp
    .have hb:l.length+1<y.length:=by omega
     have V2:¬(l.length:Int)+1<(x.length:Int):=by omega
     have Xj:(l.length:Int)+1<(y.length:Int):=by omega
     have Wd:=hy _ (Qh hb);have YI:QM Zo y (l.length+1)=Zo y[l.length+1]:=Q8 hb;simp only[BB]at Wd;have gx:x.getD (l.length+1) 0=0:=by simp[show x.length<=l.length+1 by omega]
     have gy:y.getD (l.length+1) 0=y[l.length+1]:=by simp[hb]
     generalize y[l.length+1]=yi at *
     obtain⟨t,ht⟩:∃ t,t=c+yi:=⟨_,rfl⟩
     have et:(c:Int)+(yi:Int)=(t:Int):=by omega
     have Xp:c+col [x,y] (l.length+1)=t:=by simp only[col,waq,waH,wbu,wce,gx,gy];omega
     rw[Xp]at Yx;have WD:t<1000000000000:=by omega
     have Kc:t%1000000000<1000000000:=wav _ (by decide)
     (iterate 3((try simp only[go_sem,YD,V2,Xj,YI,VS]);try simp(disch:=omega)only[QE,QG,et,Zu]))
     refine⟨by omega,?_⟩;refine zay (Qd _) (sz:=1) (bytes:=4) (by simp only[go_sem,QV]<;>decide) Z4 (d0::l) [t%1000000000] (by simp only[go_sem]<;>rfl) rfl (by simp only[go_sem]) (by simp only[go_sem]<;>rfl) rfl (by simp only[Qe]at *;simp;omega) (by decide) ?_
     (iterate 3((try simp only[go_sem,QS]);try simp(disch:=omega)only[Q6,QE]))
     refine⟨((d0::l)++[t%1000000000],t/1000000000),⟨by simp only[Qj,Qe,Qi]at *;omega,by simpa[BB]using Yx,fun h=>by simp only[Qj,Qe,Qi]at *;omega⟩,(by show M+1-((d0::l)++[t%1000000000]).length<M+1-(d0::l).length;simp only[Qj,Qe,Qi]at *;omega),?_⟩;refine Q7 rfl ?_ ?_ rfl ?_<;>(iterate 3((try simp only[go_sem,QH,Qj,Qe,Qi]);try simp(disch:=omega)only[Q6,QE,QG,Q8,QH,Qj,Qe,Qi]))<;>simp
   .have YD:¬(l.length:Int)+1<(M:Int):=by omega
    by_cases XT:c=0
    .subst XT
     have Vx:=hs.fin FG (by omega) (by omega)
     (iterate 3((try simp only[go_sem,YD]);try simp(disch:=omega)only[Q6,QE,QG,Q8,YD]))
     refine zbM 54 1 (l.length+1) rfl (zgy (d0::l) (by simp only[Qe]at *;omega)) (by simp only[go_sem]<;>rfl) (by rw[show l.length+1=(d0::l).length from rfl];exact Yl Z4) ?_ ?_
     .simp only[go_sem]<;>rfl
     .simp only[go_sem]
      rw[Vx];exact Yr
    .have L8:l.length+1=M:=by
      rcases was M (l.length+1)with h|h
      .exact Qo (hz h) XT
      .omega
     have V2:¬(l.length:Int)+1<(x.length:Int):=by omega
     have Xj:¬(l.length:Int)+1<(y.length:Int):=by omega
     have gx:x.getD (l.length+1) 0=0:=by simp[show x.length<=l.length+1 by omega]
     have gy:y.getD (l.length+1) 0=0:=by simp[show y.length<=l.length+1 by omega]
     obtain⟨t,ht⟩:∃ t,t=c:=⟨_,rfl⟩
     have et:(c:Int)=(t:Int):=by omega
     have Xp:c+col [x,y] (l.length+1)=t:=by simp only[col,waq,waH,wbu,wce,gx,gy];omega
     rw[Xp]at Yx;have WD:t<1000000000000:=by omega
     have Kc:t%1000000000<1000000000:=wav _ (by decide);have O6:t/1000000000=0:=wbm (by omega);have JL:(0:Int)<(c:Int):=by omega
     have Kd:(0:Int)<(t:Int):=by omega
     (iterate 3((try simp only[go_sem,YD,V2,Xj,Kd,et,Zu]);try simp(disch:=omega)only[QG]))
     refine zay (Qd _) (sz:=1) (bytes:=4) (by simp only[go_sem,QV]<;>decide) Z4 (d0::l) [t%1000000000] (by simp only[go_sem]<;>rfl) rfl (by simp only[go_sem]) (by simp only[go_sem]<;>rfl) rfl (by simp only[Qe]at *;simp;omega) (by decide) ?_
     (iterate 3((try simp only[go_sem,QS]);try simp(disch:=omega)only[Q6,QE]))
     refine⟨((d0::l)++[t%1000000000],t/1000000000),⟨by simp only[Qj,Qe,Qi]at *;omega,by simpa[BB]using Yx,fun h=>by simp only[Qj,Qe,Qi]at *;omega⟩,(by show M+1-((d0::l)++[t%1000000000]).length<M+1-(d0::l).length;simp only[Qj,Qe,Qi]at *;omega),?_⟩;refine Q7 rfl ?_ ?_ rfl ?_<;>(iterate 3((try simp only[go_sem,QH,Qj,Qe,Qi]);try simp(disch:=omega)only[Q6,QE,QG,Q8,QH,Qj,Qe,Qi]))<;>simp
theorem zot(a b:List Nat)(ha:a.length<5000000000000)(hb:b.length<5000000000000):Q9 prog 71 [tN a,tN b] (tN (dig (vN a-vN b))):=by
 refine QJ QC call71 func71 rfl ntmps71 results71 (by simp) (by decide) ?_;simp only[go_sem];refine Q3 (zeK a (by omega)) rfl ?_;simp only[go_sem];refine Q3 (zeK b (by omega)) rfl ?_;simp only[go_sem];have UW:=zan a;have VU:=zan b;have hX:=zag a;have hY:=zag b;refine Q3 (zoJ (held a) (held b) (by omega) (by omega)) rfl ?_;rw[show vN (held a)=vN a by rw[<-zgu,Zx],show vN (held b)=vN b by rw[<-zgu,Zx]];simp only[go_sem];refine QI (fun YZ=>?_) (fun WP=>?_)
 .simp only[go_sem]
  have:vN a<=vN b:=by
   unfold QY at YZ;split at YZ
   .omega
   .split at YZ<;>omega
  rw[show vN a-vN b=0 by omega,Zi];exact zcz
 .have Yw:vN b<vN a:=by
   unfold QY at WP;split at WP
   .omega
   .split at WP<;>omega
  clear WP;unfold vN at Yw ⊢;generalize held a=x at *
  generalize held b=y at *
  have Ec:y.length<=x.length:=by
   rcases was x.length y.length with h|h
   .have:=zdC hX hY h;omega
   .exact h
  have hx:=hX.1;have hy:=hY.1;simp only[go_sem];refine QK (fun p:List Nat×Nat=>match p.1 with
    |[]=>stL 54 [(5,aN x),(6,aN y),(7,.one (.t (.seq (some true) []))),(8,litI .i64 p.2),(9,litI .i64 0)] []
    |_::_=>stL 54 [(5,aN x),(6,aN y),(7,.one (.vec 51 1 0 p.1.length)),(8,litI .i64 p.2),(9,litI .i64 p.1.length)] [(51,cN p.1)])
   (fun p=>p.1.length<=x.length/\zdn x y p.1.length p.1 p.2) (fun p=>x.length-p.1.length) ([],0) ?_ ⟨Qk _,rfl,by simp,Qk _,by simp[val]⟩ ?_
  .refine Q7 rfl ?_ ?_ rfl ?_<;>simp only[go_sem]<;>simp
  .rintro⟨ds,c⟩ ⟨Vn,hs⟩
   simp only at Vn hs;have hc:=hs.2.2.1;cases ds with
   |nil =>
    simp only[Qi]at *
    by_cases KI:0<x.length
    .have Vy:(0:Int)<(x.length:Int):=by omega
     have VC:=hx _ (Qh KI);have Y1:QM Zo x (0)=Zo x[0]:=Q8 KI;have gx:x.getD (0) 0=x[0]:=by simp[KI]
     simp only[BB]at VC;generalize x[0]=xi at *
     by_cases hb:0<y.length
     .have Xj:(0:Int)<(y.length:Int):=by omega
      have Wd:=hy _ (Qh hb);have YI:QM Zo y (0)=Zo y[0]:=Q8 hb;have gy:y.getD (0) 0=y[0]:=by simp[hb]
      simp only[BB]at Wd;generalize y[0]=yi at *
      by_cases JE:xi<c+yi
      .obtain⟨e,he⟩:∃ e,e+c+yi=xi+1000000000:=⟨xi+1000000000-c-yi,by omega⟩
       have Xd:(xi:Int)-(c:Int)-(yi:Int)<0:=by omega
       have ee:(xi:Int)-(c:Int)-(yi:Int)+1000000000=(e:Int):=by omega
       have Yx:=hs.step (d:=e) (c':=1) (by simp only[BB];omega) (by decide) (by rw[gx,gy];simp only[BB];omega)
       (iterate 3((try simp only[go_sem,Vy,Xj,Y1,YI,ee]);try simp(disch:=omega)only[Q6,QG,Xd]))
       refine zcr (Qd _) (sz:=1) (bytes:=4) (by simp only[go_sem,QV]<;>decide) Z4 [e] (by simp only[go_sem]<;>rfl) (by simp only[go_sem]<;>rfl) rfl (by simp) (by simp) (by simp only[go_sem]) (by decide) ?_
       (iterate 3((try simp only[go_sem]);try simp(disch:=omega)only[Q6]))
       refine⟨(([]:List Nat)++[e],1),⟨by simp only[Qj,Qe,Qi]at *;omega,by simpa using Yx⟩,(by show x.length-(([]:List Nat)++[e]).length<x.length-([]:List Nat).length;simp only[Qj,Qe,Qi]at *;omega),?_⟩;refine Q7 rfl ?_ ?_ rfl ?_<;>(iterate 3((try simp only[go_sem,QH,Qe,Qi]);try simp(disch:=omega)only[Q6,QE,QG,Q8,QH,Qj,Qe,Qi]))<;>simp
      .obtain⟨e,he⟩:∃ e,e+c+yi=xi:=⟨xi-c-yi,by omega⟩
       have Xd:¬(e:Int)<0:=by omega
       have ee:(xi:Int)-(c:Int)-(yi:Int)=(e:Int):=by omega
       have Yx:=hs.step (d:=e) (c':=0) (by simp only[BB];omega) (by decide) (by rw[gx,gy];simp only[BB];omega)
       (iterate 3((try simp only[go_sem,Vy,Xj,Y1,YI]);try simp(disch:=omega)only[Q6,QG,Xd,ee]))
       refine zcr (Qd _) (sz:=1) (bytes:=4) (by simp only[go_sem,QV]<;>decide) Z4 [e] (by simp only[go_sem]<;>rfl) (by simp only[go_sem]<;>rfl) rfl (by simp) (by simp) (by simp only[go_sem]) (by decide) ?_
       (iterate 3((try simp only[go_sem]);try simp(disch:=omega)only[Q6]))
       refine⟨(([]:List Nat)++[e],0),⟨by simp only[Qj,Qe,Qi]at *;omega,by simpa using Yx⟩,(by show x.length-(([]:List Nat)++[e]).length<x.length-([]:List Nat).length;simp only[Qj,Qe,Qi]at *;omega),?_⟩;refine Q7 rfl ?_ ?_ rfl ?_<;>(iterate 3((try simp only[go_sem,QH,Qe,Qi]);try simp(disch:=omega)only[Q6,QE,QG,Q8,QH,Qj,Qe,Qi]))<;>simp
     .have Xj:¬(0:Int)<(y.length:Int):=by omega
      have gy:y.getD (0) 0=0:=by simp[show y.length<=0 by omega]
      by_cases JE:xi<c+0
      .obtain⟨e,he⟩:∃ e,e+c+0=xi+1000000000:=⟨xi+1000000000-c-0,by omega⟩
       have Xd:(xi:Int)-(c:Int)<0:=by omega
       have ee:(xi:Int)-(c:Int)+1000000000=(e:Int):=by omega
       have Yx:=hs.step (d:=e) (c':=1) (by simp only[BB];omega) (by decide) (by rw[gx,gy];simp only[BB];omega)
       (iterate 3((try simp only[go_sem,Vy,Xj,Y1,ee]);try simp(disch:=omega)only[Q6,QG,Xd]))
       refine zcr (Qd _) (sz:=1) (bytes:=4) (by simp only[go_sem,QV]<;>decide) Z4 [e] (by simp only[go_sem]<;>rfl) (by simp only[go_sem]<;>rfl) rfl (by simp) (by simp) (by simp only[go_sem]) (by decide) ?_
       (iterate 3((try simp only[go_sem]);try simp(disch:=omega)only[Q6]))
       refine⟨(([]:List Nat)++[e],1),⟨by simp only[Qj,Qe,Qi]at *;omega,by simpa using Yx⟩,(by show x.length-(([]:List Nat)++[e]).length<x.length-([]:List Nat).length;simp only[Qj,Qe,Qi]at *;omega),?_⟩;refine Q7 rfl ?_ ?_ rfl ?_<;>(iterate 3((try simp only[go_sem,QH,Qe,Qi]);try simp(disch:=omega)only[Q6,QE,QG,Q8,QH,Qj,Qe,Qi]))<;>simp
      .obtain⟨e,he⟩:∃ e,e+c+0=xi:=⟨xi-c-0,by omega⟩
       have Xd:¬(e:Int)<0:=by omega
       have ee:(xi:Int)-(c:Int)=(e:Int):=by omega
       have Yx:=hs.step (d:=e) (c':=0) (by simp only[BB];omega) (by decide) (by rw[gx,gy];simp only[BB];omega)
       (iterate 3((try simp only[go_sem,Vy,Xj,Y1]);try simp(disch:=omega)only[Q6,QG,Xd,ee]))
       refine zcr (Qd _) (sz:=1) (bytes:=4) (by simp only[go_sem,QV]<;>decide) Z4 [e] (by simp only[go_sem]<;>rfl) (by simp only[go_sem]<;>rfl) rfl (by simp) (by simp) (by simp only[go_sem]) (by decide) ?_
       (iterate 3((try simp only[go_sem]);try simp(disch:=omega)only[Q6]))
       refine⟨(([]:List Nat)++[e],0),⟨by simp only[Qj,Qe,Qi]at *;omega,by simpa using Yx⟩,(by show x.length-(([]:List Nat)++[e]).length<x.length-([]:List Nat).length;simp only[Qj,Qe,Qi]at *;omega),?_⟩;refine Q7 rfl ?_ ?_ rfl ?_<;>(iterate 3((try simp only[go_sem,QH,Qe,Qi]);try simp(disch:=omega)only[Q6,QE,QG,Q8,QH,Qj,Qe,Qi]))<;>simp
    .have Vy:¬(0:Int)<(x.length:Int):=by omega
     exfalso;have:x=[]:=wbd.1 (by omega);subst this;simp[val]at Yw
   |cons d0 l =>
    simp only[Qe]at *
    have VS:((l.length:Int)+1).toNat=l.length+1:=by omega
    by_cases KI:l.length+1<x.length
    .have Vy:(l.length:Int)+1<(x.length:Int):=by omega
     have VC:=hx _ (Qh KI);have Y1:QM Zo x (l.length+1)=Zo x[l.length+1]:=Q8 KI;have gx:x.getD (l.length+1) 0=x[l.length+1]:=by simp[KI]
     simp only[BB]at VC;generalize x[l.length+1]=xi at *
     by_cases hb:l.length+1<y.length
     .have Xj:(l.length:Int)+1<(y.length:Int):=by omega
      have Wd:=hy _ (Qh hb);have YI:QM Zo y (l.length+1)=Zo y[l.length+1]:=Q8 hb;have gy:y.getD (l.length+1) 0=y[l.length+1]:=by simp[hb]
      simp only[BB]at Wd;generalize y[l.length+1]=yi at *
      by_cases JE:xi<c+yi
      .obtain⟨e,he⟩:∃ e,e+c+yi=xi+1000000000:=⟨xi+1000000000-c-yi,by omega⟩
       have Xd:(xi:Int)-(c:Int)-(yi:Int)<0:=by omega
       have ee:(xi:Int)-(c:Int)-(yi:Int)+1000000000=(e:Int):=by omega
       have Yx:=hs.step (d:=e) (c':=1) (by simp only[BB];omega) (by decide) (by rw[gx,gy];simp only[BB];omega)
       (iterate 3((try simp only[go_sem,Vy,Xj,Y1,YI,VS,ee]);try simp(disch:=omega)only[Q6,QG,Xd]))
       refine⟨by omega,by omega,?_⟩;refine zay (Qd _) (sz:=1) (bytes:=4) (by simp only[go_sem,QV]<;>decide) Z4 (d0::l) [e] (by simp only[go_sem]<;>rfl) rfl (by simp only[go_sem]) (by simp only[go_sem]<;>rfl) rfl (by simp only[Qe]at *;simp;omega) (by decide) ?_
       (iterate 3((try simp only[go_sem]);try simp(disch:=omega)only[Q6]))
       refine⟨((d0::l)++[e],1),⟨by simp only[Qj,Qe,Qi]at *;omega,by simpa using Yx⟩,(by show x.length-((d0::l)++[e]).length<x.length-(d0::l).length;simp only[Qj,Qe,Qi]at *;omega),?_⟩;refine Q7 rfl ?_ ?_ rfl ?_<;>(iterate 3((try simp only[go_sem,QH,Qj,Qe,Qi]);try simp(disch:=omega)only[Q6,QE,QG,Q8,QH,Qj,Qe,Qi]))<;>simp
      .obtain⟨e,he⟩:∃ e,e+c+yi=xi:=⟨xi-c-yi,by omega⟩
       have Xd:¬(e:Int)<0:=by omega
       have ee:(xi:Int)-(c:Int)-(yi:Int)=(e:Int):=by omega
       have Yx:=hs.step (d:=e) (c':=0) (by simp only[BB];omega) (by decide) (by rw[gx,gy];simp only[BB];omega)
       (iterate 3((try simp only[go_sem,Vy,Xj,Y1,YI,VS]);try simp(disch:=omega)only[Q6,QG,Xd,ee]))
       refine⟨by omega,by omega,?_⟩;refine zay (Qd _) (sz:=1) (bytes:=4) (by simp only[go_sem,QV]<;>decide) Z4 (d0::l) [e] (by simp only[go_sem]<;>rfl) rfl (by simp only[go_sem]) (by simp only[go_sem]<;>rfl) rfl (by simp only[Qe]at *;simp;omega) (by decide) ?_
       (iterate 3((try simp only[go_sem]);try simp(disch:=omega)only[Q6]))
       refine⟨((d0::l)++[e],0),⟨by simp only[Qj,Qe,Qi]at *;omega,by simpa using Yx⟩,(by show x.length-((d0::l)++[e]).length<x.length-(d0::l).length;simp only[Qj,Qe,Qi]at *;omega),?_⟩;refine Q7 rfl ?_ ?_ rfl ?_<;>(iterate 3((try simp only[go_sem,QH,Qj,Qe,Qi]);try simp(disch:=omega)only[Q6,QE,QG,Q8,QH,Qj,Qe,Qi]))<;>simp
     .have Xj:¬(l.length:Int)+1<(y.length:Int):=by omega
      have gy:y.getD (l.length+1) 0=0:=by simp[show y.length<=l.length+1 by omega]
      by_cases JE:xi<c+0
      .obtain⟨e,he⟩:∃ e,e+c+0=xi+1000000000:=⟨xi+1000000000-c-0,by omega⟩
       have Xd:(xi:Int)-(c:Int)<0:=by omega
       have ee:(xi:Int)-(c:Int)+1000000000=(e:Int):=by omega
       have Yx:=hs.step (d:=e) (c':=1) (by simp only[BB];omega) (by decide) (by rw[gx,gy];simp only[BB];omega)
       (iterate 3((try simp only[go_sem,Vy,Xj,Y1,VS,ee]);try simp(disch:=omega)only[Q6,QG,Xd]))
       refine⟨by omega,?_⟩;refine zay (Qd _) (sz:=1) (bytes:=4) (by simp only[go_sem,QV]<;>decide) Z4 (d0::l) [e] (by simp only[go_sem]<;>rfl) rfl (by simp only[go_sem]) (by simp only[go_sem]<;>rfl) rfl (by simp only[Qe]at *;simp;omega) (by decide) ?_
       (iterate 3((try simp only[go_sem]);try simp(disch:=omega)only[Q6]))
       refine⟨((d0::l)++[e],1),⟨by simp only[Qj,Qe,Qi]at *;omega,by simpa using Yx⟩,(by show x.length-((d0::l)++[e]).length<x.length-(d0::l).length;simp only[Qj,Qe,Qi]at *;omega),?_⟩;refine Q7 rfl ?_ ?_ rfl ?_<;>(iterate 3((try simp only[go_sem,QH,Qj,Qe,Qi]);try simp(disch:=omega)only[Q6,QE,QG,Q8,QH,Qj,Qe,Qi]))<;>simp
      .obtain⟨e,he⟩:∃ e,e+c+0=xi:=⟨xi-c-0,by omega⟩
       have Xd:¬(e:Int)<0:=by omega
       have ee:(xi:Int)-(c:Int)=(e:Int):=by omega
       have Yx:=hs.step (d:=e) (c':=0) (by simp only[BB];omega) (by decide) (by rw[gx,gy];simp only[BB];omega)
       (iterate 3((try simp only[go_sem,Vy,Xj,Y1,VS]);try simp(disch:=omega)only[Q6,QG,Xd,ee]))
       refine⟨by omega,?_⟩;refine zay (Qd _) (sz:=1) (bytes:=4) (by simp only[go_sem,QV]<;>decide) Z4 (d0::l) [e] (by simp only[go_sem]<;>rfl) rfl (by simp only[go_sem]) (by simp only[go_sem]<;>rfl) rfl (by simp only[Qe]at *;simp;omega) (by decide) ?_
       (iterate 3((try simp only[go_sem]);try simp(disch:=omega)only[Q6]))
       refine⟨((d0::l)++[e],0),⟨by simp only[Qj,Qe,Qi]at *;omega,by simpa using Yx⟩,(by show x.length-((d0::l)++[e]).length<x.length-(d0::l).length;simp only[Qj,Qe,Qi]at *;omega),?_⟩;refine Q7 rfl ?_ ?_ rfl ?_<;>(iterate 3((try simp only[go_sem,QH,Qj,Qe,Qi]);try simp(disch:=omega)only[Q6,QE,QG,Q8,QH,Qj,Qe,Qi]))<;>simp
    .have Vy:¬(l.length:Int)+1<(x.length:Int):=by omega
     have YZ:l.length+1=x.length:=by omega
     rw[YZ]at hs;have Vx:=hs.done Ec Yw
     (iterate 3((try simp only[go_sem,Vy]);try simp(disch:=omega)only[Q6,QE,QG,Q8,Vy]))
     refine zbM 51 1 (l.length+1) rfl (zgy (d0::l) (by simp only[Qe]at *;omega)) (by simp only[go_sem]<;>rfl) (by rw[show l.length+1=(d0::l).length from rfl];exact Yl Z4) ?_ ?_
     .simp only[go_sem]<;>rfl
     .simp only[go_sem]
      rw[Vx];exact Yr
theorem zmQ{y:List Nat}{k:Nat}(hy:∀ z∈y,z<BB):val (y.drop k)<BB^y.length :=
 wbf (zab fun z hz=>hy z (wd7 hz)) (waT (by decide) (by rw[wd9];omega))
theorem zso{x y:List Nat}{k:Nat}(hx:∀ z∈x,z<BB)(hy:∀ z∈y,z<BB):(dig (val x*val (y.drop k))).length<=x.length+y.length:=zbJ (by
 rw[wbe];have h1:=zab hx;have h2:=zmQ (k:=k) hy;exact wc5 h1 h2)
theorem zt4{m low:Nat}(hl:low<BB):trimZ (low::dig m)=dig (low+BB*m):=by
 rw[zcH (fun z hz=>by rcases wab.1 hz with rfl|hz;exact hl;exact zdd m z hz)];simp[val,za5]
theorem zvG(a b:List Nat)(ha:a.length<2000000000000)(hb:b.length<2000000000000):Q9 prog 48 [tN a,tN b] (tN (dig (vN a*vN b))):=by
 refine QJ QC call48 func48 rfl ntmps48 results48 (by simp) (by decide) ?_;simp only[go_sem];refine Q3 (zeK a (by omega)) rfl ?_;simp only[go_sem];refine Q3 (zeK b (by omega)) rfl ?_;have UW:=zan a;have VU:=zan b;have hX:=zag a;have hY:=zag b;unfold vN;generalize held a=x at *
 generalize held b=y at *
 have hx:=hX.1;have hy:=hY.1
 (iterate 3((try simp only[go_sem]);try simp(disch:=omega)only[Q6]))
 refine QK (fun k:Nat=>stL 31 [(5,aN x),(6,aN y),(7,aN (dig (val x*val (y.drop k)))),(8,litI .i64 ((k:Int)-1))] []) (fun k=>k<=y.length) (fun k=>k) y.length ?_ (Qd _) ?_
 .refine GStep.trans (zic 7 (nl:=some true) (xs:=[]) (by simp only[go_sem])) ?_
  rw[wa5,show val x*val []=0 from waR _,Zi];refine Q7 rfl ?_ ?_ rfl rfl<;>(iterate 3((try simp only[go_sem]);try simp(disch:=omega)only[Q6,QE,QG,Q8]))<;>simp;all_goals rfl
 .intro k hk
  simp only[go_sem];refine QI (fun YG=>?_) (fun YG=>?_)
  .obtain⟨i,rfl⟩:∃ i,k=i+1:=⟨k-1,by omega⟩
   have e:((i+1:Nat):Int)-1=(i:Int):=by omega
   have e':(i:Int)+1-1=(i:Int):=by omega
   have hi:i<y.length:=by omega
   have Wd:=hy _ (Qh hi);have Y0:=zso (k:=i+1) hx hy;have Vj:=zwF (dig (val x*val (y.drop (i+1)))) 0 (by omega);rw[zt4 (by decide),waY]at Vj;have Vt:=zwG x y[i] (by omega) hx Wd;have UL:(dig (y[i]*val x)).length<=x.length+1:=zbJ (by
    rw[waP,Qt];exact wc5 (zab hx) Wd)
   have JB:(dig (BB*(val x*val (y.drop (i+1))))).length<=x.length+y.length+1:=zbJ (by
    have h1:val x*val (y.drop (i+1))<BB^(x.length+y.length):=by rw[wbe];exact wc5 (zab hx) (zmQ hy)
    rw[waP,Qt];exact wdp h1 (by decide))
   have Gm:=zn4 (dig (BB*(val x*val (y.drop (i+1))))) (dig (y[i]*val x)) (by omega) (by omega);rw[Zx,Zx]at Gm;have Y5:BB*(val x*val (y.drop (i+1)))+y[i]*val x=val x*val (y.drop i):=by
    rw[waw hi];simp only[val,waf];rw[Qt y[i],<-wae,<-wae,Qt BB];omega
   rw[Y5]at Gm;have Y1:QM Zo y i=Zo y[i]:=Q8 hi;simp only[BB]at Wd;generalize y[i]=yi at *
   (iterate 3((try simp only[go_sem,e']);try simp(disch:=omega)only[Q6,QE,QG,Q8,e,e']))
   refine Q4 0 rfl ?_
   (iterate 3((try simp only[go_sem]);try simp(disch:=omega)only[Q6,QE,QG,Q8,e,e']))
   refine Q3 Vj rfl ?_
   (iterate 3((try simp only[go_sem,Y1]);try simp(disch:=omega)only[QE]))
   refine⟨by omega,Q3 Vt rfl ?_⟩
   (iterate 3((try simp only[go_sem]);try simp(disch:=omega)only[Q6,QE,QG,Q8,e,e']))
   refine Q3 Gm rfl ?_
   (iterate 3((try simp only[go_sem]);try simp(disch:=omega)only[Q6]))
   refine⟨i,by omega,waN i,?_⟩;refine Q7 rfl ?_ ?_ rfl rfl<;>(iterate 3((try simp only[go_sem]);try simp(disch:=omega)only[Q6,QE,QG,Q8,e,e']))<;>simp
  .obtain rfl:k=0:=by omega
   rw[wbM];simp only[go_sem];exact Yr
end Go.Proofs.YtlgjjcmljmjenaaGreat
