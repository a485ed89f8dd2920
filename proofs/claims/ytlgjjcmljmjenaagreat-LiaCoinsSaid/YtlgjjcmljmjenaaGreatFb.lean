/- At every input the call answers true and leaves its arguments as they were; no conditions. -/
import Derived.Test.YtlgjjcmljmjenaaGreatFa
import Derived.Test.YtlgjjcmljmjenaaGreatAd
set_option linter.unusedSimpArgs false
set_option linter.unusedVariables false
set_option maxRecDepth 100000
set_option maxHeartbeats 4000000
namespace Go.Proofs.YtlgjjcmljmjenaaGreat
open Go Go.Abs Go.Proofs.Tryz
theorem zp0(xs:List Nat)(hl:xs.length<30000000000000):Q7 prog 32 [tN xs] (tB (decide (IsN xs))):=by
 refine QH QB call32 func32 rfl ntmps32 results32 (by simp) (by decide) ?_;simp only[go_sem];refine QJ (fun i:Nat=>stL 27 [(0,aN xs),(3,litI .i64 i)] []) (fun i=>i<=xs.length/\∀ j (h:j<xs.length),j<i->xs[j]<1000000000) (fun i=>xs.length-i) 0 ?_ ⟨Qk _,fun j h hj=>Qn hj (wa5 _)⟩ ?_
 .refine Q6 rfl ?_ ?_ rfl rfl<;>simp only[go_sem]<;>simp
 .rintro i ⟨hi,YS⟩
  simp only[go_sem];refine QI (fun Y1=>?_) (fun YI=>?_)
  .have Yz:i<xs.length:=by omega
   simp only[go_sem,Q8 Yz,Y1];refine⟨by omega,QI (fun h=>?_) (fun h=>?_)⟩
   .simp only[go_sem]
    symm;simp only[decide_eq_false_iff_not];intro hc;have:=hc.1 xs[i] (Qf _);simp only[BB]at this;omega
   .simp only[go_sem]
    refine⟨i+1,⟨Yz,fun j hj JD=>?_⟩,(by show xs.length-(i+1)<xs.length-i;omega),?_⟩
    .by_cases e:j=i
     .subst e;omega
     .exact YS j hj (by omega)
    .refine Q6 rfl ?_ ?_ rfl rfl<;>simp only[go_sem,Q4 (n:=(i:Int)+1) (by omega) (by omega)]<;>simp
  .have Ja:i=xs.length:=by omega
   subst Ja;have hall:∀ x∈xs,x<BB:=fun x hx=>by
    obtain⟨j,hj,rfl⟩:=waQ.1 hx;exact YS j hj hj
   simp only[go_sem];cases hx:xs with
   |nil =>
    simp only[go_sem];rfl
   |cons x l =>
    rw[hx]at hl hall;simp only[Qe]at hl;have hne:¬((l.length:Int)+1=0):=by omega
    have Y4:l.length<(x::l).length:=by simp
    (iterate 3((try simp only[go_sem,hne,show(l.length:Int)+1-1=(l.length:Int) by omega]);try simp(disch:=omega)only[Q4,Q8]))
    have e:(x::l).getLast? = some ((x::l)[l.length]):=by simp[wc3]
    have YU:IsN (x::l)↔(x::l)[l.length]≠0:=by
     unfold IsN;rw[e];simp only[ne_eq,wba];exact⟨fun h=>h.2,fun h=>⟨hall,h⟩⟩
    refine⟨by omega,?_⟩;rw[waG,YU];omega
theorem zdr(xs:List Nat)(hl:xs.length<30000000000000):Q7 prog 68 [tN xs] (tN (held xs)):=by
 refine QH QB call68 func68 rfl ntmps68 results68 (by simp) (by decide) ?_;simp only[go_sem];refine Q2 (zp0 xs hl) rfl ?_;by_cases h:IsN xs
 .simp only[go_sem,h,held]
  exact Yk
 .simp only[go_sem,h,held]
  exact zcA
theorem zfz(xs:List Nat)(hl:xs.length<30000000000000):Q7 prog 72 [tN xs] (tN (trimZ xs)):=by
 refine QH QB call72 func72 rfl ntmps72 results72 (by simp) (by decide) ?_;simp only[go_sem];refine QJ (fun k:Nat=>stL 21 [(0,aN xs),(3,litI .i64 k)] []) (fun k=>k<=xs.length/\trimZ (xs.take k)=trimZ xs) (fun k=>k) xs.length ?_ ⟨Qd _,by rw[waa]⟩ ?_
 .refine Q6 rfl ?_ ?_ rfl rfl<;>simp only[go_sem]<;>simp
 .rintro k ⟨hi,YS⟩
  rcases wce k with rfl|hk
  .simp only[go_sem]
   rw[<-YS];refine⟨by omega,Yk⟩
  .obtain⟨i,rfl⟩:∃ i,k=i+1:=⟨k-1,by omega⟩
   have Y6:i<xs.length:=by omega
   have YV:(0:Int)<((i+1:Nat):Int):=by omega
   have X9:(0:Int)<(i:Int)+1:=by omega
   have e:((i+1:Nat):Int)-1=i:=by omega
   have e2:(i:Int)+1-1=i:=by omega
   rw[Zl Y6]at YS
   (iterate 3((try simp only[go_sem,X9,e2]);try simp(disch:=omega)only[Q4,Q8]))
   refine⟨by omega,QI (fun h=>?_) (fun h=>?_)⟩
   .have hx:xs[i]=0:=by omega
    rw[hx,zis]at YS
    (iterate 3((try simp only[go_sem,e2]);try simp(disch:=omega)only[Q4]))
    refine⟨i,⟨by omega,YS⟩,waO i,?_⟩;refine Q6 rfl ?_ ?_ rfl ?_<;>simp only[go_sem]<;>simp
   .have hx:xs[i]≠0:=by omega
    rw[zg1 (by rw[List.getLast?_concat];simp[hx]),<-Zl Y6]at YS
    (iterate 3((try simp only[go_sem,show(0:Int)<=(i:Int)+1 by omega,show((i:Int)+1).toNat=i+1 by omega]);try simp(disch:=omega)only[Q4,QC,QD,Q8,X9,show(0:Int)<=(i:Int)+1 by omega,show((i:Int)+1).toNat=i+1 by omega]))
    rw[<-YS];exact⟨by first|exact hi|exact⟨Qk _,hi⟩,Yk⟩
theorem zw9(n:Nat)(hn:n<18446744073709551616):Q7 prog 43 [tI .u64 n] (tN (dig n)):=by
 refine QH QB call43 func43 rfl ntmps43 results43 (by simp) (by decide) ?_;simp only[go_sem];have Sa:(dig n).length<=3:=zaz (by simp only[BB];omega);refine QJ (fun p:Nat×List Nat=>match p.2 with
   |[]=>stL 15 [(0,litI .u64 p.1),(3,.one (.t (.seq (some true) [])))] []
   |_::_=>stL 15 [(0,litI .u64 p.1),(3,.one (.vec 11 1 0 p.2.length))] [(11,cN p.2)]) (fun p=>p.1<=n/\p.2++dig p.1=dig n) (fun p=>p.1) (n,[]) ?_ ⟨Qd _,rfl⟩ ?_
 .refine Q6 rfl ?_ ?_ rfl rfl<;>simp only[go_sem]<;>simp
 .rintro⟨m,l⟩ ⟨hm,Y3⟩
  simp only at hm Y3;have Y4:l.length<=3:=by have:=congrArg List.length Y3;simp at this;omega
  by_cases h0:m=0
  .subst h0
   rw[Zg,wak]at Y3;rw[<-Y3];cases l with
   |nil=>simp only[go_sem];exact zcA
   |cons x t=>simp only[go_sem];exact zgi Z3 (by simp only[go_sem]) rfl
  .have YV:(0:Int)<(m:Int):=by omega
   have hw:m/1000000000<=m:=wb3 _ _;have KV:m%1000000000<1000000000:=waw _ (by decide);cases l with
   |nil =>
    (iterate 3((try simp only[go_sem,YV,Zx]);try simp(disch:=omega)only[QD]))
    refine zcs (Qd _) (sz:=1) (bytes:=4) (by simp only[go_sem,QW]<;>decide) Z3 [m%1000000000] (by simp only[go_sem]<;>rfl) (by simp only[go_sem]<;>rfl) rfl (by simp) (by simp) (by simp only[go_sem]) (by decide) ?_
    (iterate 3((try simp only[go_sem,QS]);try simp(disch:=omega)only[QC]))
    refine⟨(m/1000000000,[m%1000000000]),⟨by omega,?_⟩,by show m/1000000000<m;omega,?_⟩
    .rw[<-Y3];simp only[wbw];rw[zce h0];rfl
    .refine Q6 rfl ?_ ?_ rfl ?_<;>simp only[go_sem,QF]<;>simp
   |cons x t =>
    (iterate 3((try simp only[go_sem,YV,Zx]);try simp(disch:=omega)only[QD]))
    refine zar (Qd _) (sz:=1) (bytes:=4) (by simp only[go_sem,QW]<;>decide) Z3 (x::t) [m%1000000000] (by simp only[go_sem]<;>rfl) rfl (by simp only[go_sem]) (by simp only[go_sem]<;>rfl) rfl (by simp only[Qe]at *;simp;omega) (by decide) ?_
    (iterate 3((try simp only[go_sem,QS]);try simp(disch:=omega)only[QC]))
    refine⟨(m/1000000000,x::t++[m%1000000000]),⟨by omega,?_⟩,by show m/1000000000<m;omega,?_⟩
    .rw[<-Y3,zce h0];simp
    .refine Q6 rfl ?_ ?_ rfl ?_<;>simp only[go_sem,QF]<;>simp
theorem zt3(x y:List Nat)(ha:x.length<30000000000000)(hb:y.length<30000000000000):Q7 prog 49 [tN x,tN y] (tB (decide (x=y))):=by
 refine QH QB call49 func49 rfl ntmps49 results49 (by simp) (by decide) ?_;simp only[go_sem];refine QI (fun h=>?_) (fun h=>?_)
 .simp only[go_sem]
  symm;simp only[decide_eq_false_iff_not];rintro rfl;simp at h
 .have Y4:x.length=y.length:=by omega
  simp only[go_sem];refine QJ (fun i:Nat=>stL 26 [(0,aN x),(1,aN y),(5,litI .i64 i)] []) (fun i=>i<=x.length/\x.take i=y.take i) (fun i=>x.length-i) 0 ?_ ⟨Qk _,rfl⟩ ?_
  .refine Q6 rfl ?_ ?_ rfl rfl<;>simp only[go_sem]<;>simp
  .rintro i ⟨hi,YS⟩
   simp only[go_sem];refine QI (fun Y1=>?_) (fun YI=>?_)
   .have hx:i<x.length:=by omega
    have hy:i<y.length:=by omega
    simp only[go_sem];refine Q3 0 rfl ?_;simp only[go_sem,Q8 hx,Q8 hy];refine⟨⟨by omega,by omega⟩,⟨by omega,by omega⟩,QI (fun h=>?_) (fun h=>?_)⟩
    .simp only[go_sem]
     symm;simp only[decide_eq_false_iff_not];rintro rfl;exact h rfl
    .simp only[go_sem]
     refine⟨i+1,⟨hx,?_⟩,(by show x.length-(i+1)<x.length-i;omega),?_⟩
     .rw[Zl hx,Zl hy,YS,show x[i]=y[i] by omega]
     .refine Q6 rfl ?_ ?_ rfl rfl<;>simp only[go_sem,Q4 (n:=(i:Int)+1) (by omega) (by omega)]<;>simp
   .obtain rfl:i=x.length:=by omega
    rw[waa,Y4,waa]at YS;simp only[go_sem];simp[YS]
theorem zhh(a b:List Nat)(ha:a.length<30000000000000)(hb:b.length<30000000000000):Q7 prog 47 [tN a,tN b] (tI .i64 (Za (vN a) (vN b))):=by
 refine QH QB call47 func47 rfl ntmps47 results47 (by simp) (by decide) ?_;simp only[go_sem];refine Q2 (zdr a ha) rfl ?_;simp only[go_sem];refine Q2 (zdr b hb) rfl ?_;have E8:=zam a;have Jb:=zam b;have hA:=zaf a;have hB:=zaf b;unfold vN;generalize held a=x at *
 generalize held b=y at *
 simp only[go_sem];refine QI (fun h=>?_) (fun h=>?_)
 .simp only[go_sem]
  refine QI (fun h'=>?_) (fun h'=>?_)
  .have:=zeV hA hB (by omega)
   simp only[go_sem];unfold Za;rw[Qc (by omega)]
  .have:=zeV hB hA (by omega)
   simp only[go_sem];unfold Za;rw[Qb (by omega),Qc (by omega)]
 .have Y4:x.length=y.length:=by omega
  simp only[go_sem];refine QJ (fun k:Nat=>stL 47 [(5,aN x),(6,aN y),(7,litI .i64 ((k:Int)-1))] []) (fun k=>k<=x.length/\x.drop k=y.drop k) (fun k=>k) x.length ?_ ⟨Qd _,by rw[wbk,Y4,wbk]⟩ ?_
  .refine Q6 rfl ?_ ?_ rfl rfl<;>simp only[go_sem,Q4 (n:=(x.length:Int)-1) (by omega) (by omega)]<;>simp
  .rintro k ⟨hk,hd⟩
   simp only[go_sem];refine QI (fun Y1=>?_) (fun YI=>?_)
   .obtain⟨i,rfl⟩:∃ i,k=i+1:=⟨k-1,by omega⟩
    have hx:i<x.length:=by omega
    have hy:i<y.length:=by omega
    have e:((i:Int)+1-1)=i:=by omega
    simp only[go_sem,e];refine Q3 0 rfl ?_
    (iterate 3((try simp only[go_sem]);try simp(disch:=omega)only[Q8]))
    refine⟨by omega,by omega,QI (fun h=>?_) (fun h=>?_)⟩
    .simp only[go_sem]
     have:=ziP hA.1 hx hy hd (by omega);unfold Za;rw[Qc (by omega)]
    .simp only[go_sem]
     refine Q3 0 rfl ?_
     (iterate 3((try simp only[go_sem]);try simp(disch:=omega)only[Q8]))
     refine⟨by omega,by omega,QI (fun h'=>?_) (fun h'=>?_)⟩
     .simp only[go_sem]
      have:=ziP hB.1 hy hx hd.symm (by omega);unfold Za;rw[Qb (by omega),Qc (by omega)]
     .simp only[go_sem]
      refine⟨i,⟨by omega,?_⟩,waO i,?_⟩
      .rw[waD hx,waD hy,hd,show x[i]=y[i] by omega]
      .refine Q6 rfl ?_ ?_ rfl rfl<;>simp only[go_sem,Q4 (n:=(i:Int)-1) (by omega) (by omega)]<;>simp
   .have VV:k=0:=by omega
    subst VV;simp only[go_sem];have:x=y:=by simpa using hd
    subst this;unfold Za;rw[Qb (by omega),Qb (by omega)]
theorem zpy(xs:List Nat)(low:Nat)(hl:xs.length<10000000000000):Q7 prog 69 [tN xs,tI .u32 low] (tN (trimZ (low::xs))):=by
 refine QH QB call69 func69 rfl ntmps69 results69 (by simp) (by decide) ?_;simp only[go_sem];refine ziM 6 1 [.t (.lit (.int .u32 0))] (cs:=cN [low]) rfl (Qd _) (by simp only[go_sem]<;>decide) (by simp only[go_sem]<;>rfl) (by simp only[go_sem]) (by decide) ?_;simp only[go_sem];refine zar (Qd _) (sz:=1) (bytes:=4) (by simp only[go_sem,QW]<;>decide) Z3 [low] xs (by simp only[go_sem]<;>rfl) rfl (by simp only[go_sem]<;>rfl) (by simp only[go_sem]<;>rfl) rfl (by simp;omega) (by decide) ?_;simp only[go_sem];refine zcd 6 1 (xs.length+1) rfl (zfz (low::xs) (by simp;omega)) (by simp only[go_sem]<;>rfl) (by rw[show xs.length+1=(low::xs).length from rfl];exact Yp Z3) ?_ ?_
 .simp only[go_sem]<;>rfl
 .simp only[go_sem]
  exact Yk
def zgB(x:List Nat)(m i:Nat)(ds:List Nat)(c:Nat):Prop:=ds.length=i/\(∀ z∈ds,z<BB)/\c<BB/\val ds+BB^i*c=m*val (x.take i)
theorem zgB.next{x ds:List Nat}{m i c t:Nat}(h:zgB x m i ds c)(hx:∀ z∈x,z<BB)(hm:m<BB)(ht:t=c+x.getD i 0*m):zgB x m (i+1) (ds++[t%BB]) (t/BB):=by
 obtain⟨h1,h2,h3,h4⟩:=h;have Wf:x.getD i 0<BB:=by
  by_cases h:i<x.length
  .simp[h];exact hx _ (Qf h)
  .simp[show x.length<=i by omega,BB]
 refine⟨by simp[h1],fun z hz=>?_,?_,?_⟩
 .rcases wao.1 hz with hz|hz
  .exact h2 z hz
  .simp at hz;subst hz;exact waw _ (by decide)
 .have:x.getD i 0*m<=999999999*999999999:=wax (by simp only[BB]at Wf;omega) (by simp only[BB]at hm;omega)
  simp only[BB]at h3 ⊢;omega
 .rw[za2,zem,h1,waJ,waf,wae,<-h4]
  have e4:=congrArg (BB^i*·) ((wco t BB).trans ht);simp only[wae]at e4;simp only[val,waV,wap];have e5:m*(BB^i*x.getD i 0)=BB^i*(x.getD i 0*m):=by rw[Qu m,waf]
  rw[e5];omega
theorem zgB.done{x ds:List Nat}{m i:Nat}(h:zgB x m i ds 0)(hi:x.length<=i):trimZ ds=dig (m*val x):=by
 obtain⟨h1,h2,h3,h4⟩:=h;rw[waM hi,waV,wap]at h4;rw[zcL h2,h4]
theorem zly(x:List Nat)(m:Nat)(hl:x.length<10000000000000)(hx:∀ z∈x,z<BB)(hm:m<BB):Q7 prog 70 [tN x,tI .u64 m] (tN (dig (m*val x))):=by
 refine QH QB call70 func70 rfl ntmps70 results70 (by simp) (by decide) ?_;simp only[go_sem];have JR:=hm;simp only[BB]at JR;refine QJ (fun p:List Nat×Nat=>match p.1 with
   |[]=>stL 41 [(0,aN x),(1,litI .u64 m),(5,.one (.t (.seq (some true) []))),(6,litI .u64 p.2),(7,litI .i64 0)] []
   |_::_=>stL 41 [(0,aN x),(1,litI .u64 m),(5,.one (.vec 36 1 0 p.1.length)),(6,litI .u64 p.2),(7,litI .i64 p.1.length)] [(36,cN p.1)])
  (fun p=>p.1.length<=x.length+1/\zgB x m p.1.length p.1 p.2/\(x.length<p.1.length->p.2=0)) (fun p=>x.length+1-p.1.length) ([],0) ?_ ⟨Qk _,⟨rfl,by simp,by decide,by simp[val]⟩,fun _=>rfl⟩ ?_
 .refine Q6 rfl ?_ ?_ rfl ?_<;>simp only[go_sem]<;>simp
 .rintro⟨ds,c⟩ ⟨Vd,hs,hz⟩
  simp only at Vd hs hz;by_cases Y1:ds.length<x.length
  .have YF:(ds.length:Int)<(x.length:Int):=by omega
   have Vm:=hx _ (Qf Y1);simp only[BB]at Vm;have hc:=hs.2.2.1;simp only[BB]at hc;have WS:x[ds.length]*m<=999999999*999999999:=wax (by omega) (by omega);have et:(c:Int)+(x[ds.length]:Int)*(m:Int)=((c+x[ds.length]*m:Nat):Int):=by omega
   have Y5:QP Zr x ds.length=Zr x[ds.length]:=Q8 Y1;have Y0:=hs.next hx hm (t:=c+x[ds.length]*m) (by simp[Y1]);generalize c+x[ds.length]*m=t at *
   generalize x[ds.length]=xi at *
   have Kj:t%1000000000<1000000000:=waw _ (by decide);cases ds with
   |nil =>
    simp only[Qi]at *
    have YF:(0:Int)<(x.length:Int):=by omega
    (iterate 3((try simp only[go_sem,YF,Y5]);try simp(disch:=omega)only[QC,QD,et,Zx]))
    refine zcs (Qd _) (sz:=1) (bytes:=4) (by simp only[go_sem,QW]<;>decide) Z3 [t%1000000000] (by simp only[go_sem]<;>rfl) (by simp only[go_sem]<;>rfl) rfl (by simp) (by simp) (by simp only[go_sem]) (by decide) ?_
    (iterate 3((try simp only[go_sem,QS]);try simp(disch:=omega)only[Q4,QC]))
    refine⟨(([]:List Nat)++[t%1000000000],t/1000000000),⟨by simp only[Qj,Qe,Qi]at *;omega,by simpa[BB]using Y0,fun h=>by simp only[Qj,Qe,Qi]at h;omega⟩,(by show x.length+1-(([]:List Nat)++[t%1000000000]).length<x.length+1-([]:List Nat).length;simp only[Qj,Qe,Qi]at *;omega),?_⟩;refine Q6 rfl ?_ ?_ rfl ?_<;>(iterate 3((try simp only[go_sem,QF,Qe,Qi]);try simp(disch:=omega)only[Q4,QC,QD,Q8,QF,Qj,Qe,Qi]))<;>simp
   |cons d0 l =>
    simp only[Qe]at *
    have YF:(l.length:Int)+1<(x.length:Int):=by omega
    have VW:((l.length:Int)+1).toNat=l.length+1:=by omega
    (iterate 3((try simp only[go_sem,YF,VW,Y5]);try simp(disch:=omega)only[QC,QD,et,Zx]))
    refine⟨by omega,?_⟩;refine zar (Qd _) (sz:=1) (bytes:=4) (by simp only[go_sem,QW]<;>decide) Z3 (d0::l) [t%1000000000] (by simp only[go_sem]<;>rfl) rfl (by simp only[go_sem]) (by simp only[go_sem]<;>rfl) rfl (by simp only[Qe]at *;simp;omega) (by decide) ?_
    (iterate 3((try simp only[go_sem,QS]);try simp(disch:=omega)only[Q4,QC]))
    refine⟨((d0::l)++[t%1000000000],t/1000000000),⟨by simp only[Qj,Qe,Qi]at *;omega,by simpa[BB]using Y0,fun h=>by simp only[Qj,Qe,Qi]at h;omega⟩,(by show x.length+1-((d0::l)++[t%1000000000]).length<x.length+1-(d0::l).length;simp only[Qj,Qe,Qi]at *;omega),?_⟩;refine Q6 rfl ?_ ?_ rfl ?_<;>(iterate 3((try simp only[go_sem,QF,Qj,Qe,Qi]);try simp(disch:=omega)only[Q4,QC,QD,Q8,QF,Qj,Qe,Qi]))<;>simp
  .by_cases XN:c=0
   .subst XN
    have Vf:=hs.done (by omega);cases ds with
    |nil =>
     simp only[Qi]at *
     have YF:¬(0:Int)<(x.length:Int):=by omega
     (iterate 3((try simp only[go_sem,YF]);try simp(disch:=omega)only[Q4,QC,QD,Q8,YF]))
     refine zfe (tvs':=[.one (.seq (some true) [])]) (zfz [] (by simp)) rfl (.cons fzW .nil) ?_;simp only[go_sem];rw[Vf];exact Yk
    |cons d0 l =>
     have YF:¬(l.length:Int)+1<(x.length:Int):=by simp only[Qe]at Y1;omega
     (iterate 3((try simp only[go_sem,YF]);try simp(disch:=omega)only[Q4,QC,QD,Q8,YF]))
     refine zcd 36 1 (l.length+1) rfl (zfz (d0::l) (by simp only[Qe]at *;omega)) (by simp only[go_sem]<;>rfl) (by rw[show l.length+1=(d0::l).length from rfl];exact Yp Z3) ?_ ?_
     .simp only[go_sem]<;>rfl
     .simp only[go_sem]
      rw[Vf];exact Yk
   .have LI:ds.length=x.length:=by
     rcases wau x.length ds.length with h|h
     .exact Qn (hz h) XN
     .omega
    have hc:=hs.2.2.1;simp only[BB]at hc;have JV:(0:Int)<(c:Int):=by omega
    have Y0:=hs.next hx hm (t:=c) (by simp[show x.length<=ds.length by omega]);obtain⟨t,ht⟩:∃ t,t=c:=⟨c,rfl⟩
    have EG:(c:Int)=(t:Int):=by omega
    have Kt:t/1000000000=0:=wbp (by omega);rw[<-ht]at Y0;have Kj:t%1000000000<1000000000:=waw _ (by decide);cases ds with
    |nil =>
     simp only[Qi]at *
     have YF:¬(0:Int)<(x.length:Int):=by omega
     have Kk:(0:Int)<(t:Int):=by omega
     (iterate 3((try simp only[go_sem,YF,EG,Kk,Zx]);try simp(disch:=omega)only[QD]))
     refine zcs (Qd _) (sz:=1) (bytes:=4) (by simp only[go_sem,QW]<;>decide) Z3 [t%1000000000] (by simp only[go_sem]<;>rfl) (by simp only[go_sem]<;>rfl) rfl (by simp) (by simp) (by simp only[go_sem]) (by decide) ?_
     (iterate 3((try simp only[go_sem,QS]);try simp(disch:=omega)only[Q4,QC]))
     refine⟨(([]:List Nat)++[t%1000000000],t/1000000000),⟨by simp only[Qj,Qe,Qi]at *;omega,by simpa[BB]using Y0,fun _=>Kt⟩,(by show x.length+1-(([]:List Nat)++[t%1000000000]).length<x.length+1-([]:List Nat).length;simp only[Qj,Qe,Qi]at *;omega),?_⟩;refine Q6 rfl ?_ ?_ rfl ?_<;>(iterate 3((try simp only[go_sem,QF,Qe,Qi]);try simp(disch:=omega)only[Q4,QC,QD,Q8,QF,Qj,Qe,Qi]))<;>simp
    |cons d0 l =>
     simp only[Qe]at *
     have YF:¬(l.length:Int)+1<(x.length:Int):=by omega
     have Kk:(0:Int)<(t:Int):=by omega
     (iterate 3((try simp only[go_sem,YF,EG,Kk,Zx]);try simp(disch:=omega)only[QD]))
     refine zar (Qd _) (sz:=1) (bytes:=4) (by simp only[go_sem,QW]<;>decide) Z3 (d0::l) [t%1000000000] (by simp only[go_sem]<;>rfl) rfl (by simp only[go_sem]) (by simp only[go_sem]<;>rfl) rfl (by simp only[Qe]at *;simp;omega) (by decide) ?_
     (iterate 3((try simp only[go_sem,QS]);try simp(disch:=omega)only[Q4,QC]))
     refine⟨((d0::l)++[t%1000000000],t/1000000000),⟨by simp only[Qj,Qe,Qi]at *;omega,by simpa[BB]using Y0,fun _=>Kt⟩,(by show x.length+1-((d0::l)++[t%1000000000]).length<x.length+1-(d0::l).length;simp only[Qj,Qe,Qi]at *;omega),?_⟩;refine Q6 rfl ?_ ?_ rfl ?_<;>(iterate 3((try simp only[go_sem,QF,Qj,Qe,Qi]);try simp(disch:=omega)only[Q4,QC,QD,Q8,QF,Qj,Qe,Qi]))<;>simp
theorem zea.fin{x y ds:List Nat}{k:Nat}(hs:zea [x,y] k ds 0)(h:∀ a∈[x,y],∀ z∈a,z<BB)(hx:x.length<=k)(hy:y.length<=k):trimZ ds=dig (val x+val y):=by
 obtain⟨h1,h2,h3,h4⟩:=hs;rw[waV,wap]at h4;rw[zcL h2,h4];simp[low,waM hx,waM hy]
theorem zkT(a b:List Nat)(ha:a.length<5000000000000)(hb:b.length<5000000000000):Q7 prog 45 [tN a,tN b] (tN (dig (vN a+vN b))):=by
 refine QH QB call45 func45 rfl ntmps45 results45 (by simp) (by decide) ?_;simp only[go_sem];refine Q2 (zdr a (by omega)) rfl ?_;simp only[go_sem];refine Q2 (zdr b (by omega)) rfl ?_;have UG:=zam a;have VS:=zam b;have hX:=zaf a;have hY:=zaf b;unfold vN;generalize held a=x at *
 generalize held b=y at *
 have hx:=hX.1;have hy:=hY.1;have FS:∀ z∈[x,y],∀ w∈z,w<BB:=fun z hz=>by
  rcases wad.1 hz with rfl|hz
  .exact hx
  .obtain rfl:=Qr.1 hz;exact hy
 obtain⟨M,hM⟩:∃ M,M=max x.length y.length:=⟨_,rfl⟩
 have eM:(if(y.length:Int)>(x.length:Int)then(y.length:Int)else(x.length:Int))=(M:Int):=by split<;>omega
 simp only[go_sem];refine QJ (fun p:List Nat×Nat=>match p.1 with
   |[]=>stL 59 [(5,aN x),(6,aN y),(7,.one (.t (.seq (some true) []))),(8,litI .u64 p.2),(9,litI .i64 0)] []
   |_::_=>stL 59 [(5,aN x),(6,aN y),(7,.one (.vec 54 1 0 p.1.length)),(8,litI .u64 p.2),(9,litI .i64 p.1.length)] [(54,cN p.1)])
  (fun p=>p.1.length<=M+1/\zea [x,y] p.1.length p.1 p.2/\(M<p.1.length->p.2=0)) (fun p=>M+1-p.1.length) ([],0) ?_ ⟨Qk _,⟨rfl,by simp,Qk _,by rw[Qi,zog];rfl⟩,fun _=>rfl⟩ ?_
 .refine Q6 rfl ?_ ?_ rfl ?_<;>simp only[go_sem]<;>simp
 .rintro⟨ds,c⟩ ⟨Vd,hs,hz⟩
  simp only at Vd hs hz;have Ki:c<=2:=hs.2.2.1;have Y0:=hs.next FS;cases ds with
  |nil =>
   simp only[Qi]at *
   simp only[go_sem];refine zdQ rfl (by simp only[go_sem]<;>rfl) (by simp only[go_sem]<;>rfl) (Qd _) ?_;rw[eM];by_cases Y1:0<M
   .have YF:(0:Int)<(M:Int):=by omega
    by_cases ha:0<x.length
    .by_cases hb:0<y.length
     ·
      have V5:(0:Int)<(x.length:Int):=by omega
      have Xl:(0:Int)<(y.length:Int):=by omega
      have Vm:=hx _ (Qf ha);have Y5:QP Zr x (0)=Zr x[0]:=Q8 ha;simp only[BB]at Vm;have Ww:=hy _ (Qf hb);have YQ:QP Zr y (0)=Zr y[0]:=Q8 hb;simp only[BB]at Ww;have gx:x.getD (0) 0=x[0]:=by simp[ha]
      generalize x[0]=xi at *
      have gy:y.getD (0) 0=y[0]:=by simp[hb]
      generalize y[0]=yi at *
      obtain⟨t,ht⟩:∃ t,t=c+xi+yi:=⟨_,rfl⟩
      have et:(c:Int)+(xi:Int)+(yi:Int)=(t:Int):=by omega
      have Xq:c+col [x,y] (0)=t:=by simp only[col,wat,waL,wbA,wci,gx,gy];omega
      rw[Xq]at Y0;have WP:t<1000000000000:=by omega
      have Kj:t%1000000000<1000000000:=waw _ (by decide)
      (iterate 3((try simp only[go_sem,YF,V5,Xl,Y5,YQ]);try simp(disch:=omega)only[QC,QD,et,Zx]))
      refine zcs (Qd _) (sz:=1) (bytes:=4) (by simp only[go_sem,QW]<;>decide) Z3 [t%1000000000] (by simp only[go_sem]<;>rfl) (by simp only[go_sem]<;>rfl) rfl (by simp) (by simp) (by simp only[go_sem]) (by decide) ?_
      (iterate 3((try simp only[go_sem,QS]);try simp(disch:=omega)only[Q4,QC]))
      refine⟨(([]:List Nat)++[t%1000000000],t/1000000000),⟨by simp only[Qj,Qe,Qi]at *;omega,by simpa[BB]using Y0,fun h=>by simp only[Qj,Qe,Qi]at *;omega⟩,(by show M+1-(([]:List Nat)++[t%1000000000]).length<M+1-([]:List Nat).length;simp only[Qj,Qe,Qi]at *;omega),?_⟩;refine Q6 rfl ?_ ?_ rfl ?_<;>(iterate 3((try simp only[go_sem,QF,Qe,Qi]);try simp(disch:=omega)only[Q4,QC,QD,Q8,QF,Qj,Qe,Qi]))<;>simp
     ·
      have V5:(0:Int)<(x.length:Int):=by omega
      have Xl:¬(0:Int)<(y.length:Int):=by omega
      have Vm:=hx _ (Qf ha);have Y5:QP Zr x (0)=Zr x[0]:=Q8 ha;simp only[BB]at Vm;have gx:x.getD (0) 0=x[0]:=by simp[ha]
      generalize x[0]=xi at *
      have gy:y.getD (0) 0=0:=by simp[show y.length<=0 by omega]
      obtain⟨t,ht⟩:∃ t,t=c+xi:=⟨_,rfl⟩
      have et:(c:Int)+(xi:Int)=(t:Int):=by omega
      have Xq:c+col [x,y] (0)=t:=by simp only[col,wat,waL,wbA,wci,gx,gy];omega
      rw[Xq]at Y0;have WP:t<1000000000000:=by omega
      have Kj:t%1000000000<1000000000:=waw _ (by decide)
      (iterate 3((try simp only[go_sem,YF,V5,Xl,Y5]);try simp(disch:=omega)only[QC,QD,et,Zx]))
      refine zcs (Qd _) (sz:=1) (bytes:=4) (by simp only[go_sem,QW]<;>decide) Z3 [t%1000000000] (by simp only[go_sem]<;>rfl) (by simp only[go_sem]<;>rfl) rfl (by simp) (by simp) (by simp only[go_sem]) (by decide) ?_
      (iterate 3((try simp only[go_sem,QS]);try simp(disch:=omega)only[Q4,QC]))
      refine⟨(([]:List Nat)++[t%1000000000],t/1000000000),⟨by simp only[Qj,Qe,Qi]at *;omega,by simpa[BB]using Y0,fun h=>by simp only[Qj,Qe,Qi]at *;omega⟩,(by show M+1-(([]:List Nat)++[t%1000000000]).length<M+1-([]:List Nat).length;simp only[Qj,Qe,Qi]at *;omega),?_⟩;refine Q6 rfl ?_ ?_ rfl ?_<;>(iterate 3((try simp only[go_sem,QF,Qe,Qi]);try simp(disch:=omega)only[Q4,QC,QD,Q8,QF,Qj,Qe,Qi]))<;>simp
    .have hb:0<y.length:=by omega
     have V5:¬(0:Int)<(x.length:Int):=by omega
     have Xl:(0:Int)<(y.length:Int):=by omega
     have Ww:=hy _ (Qf hb);have YQ:QP Zr y (0)=Zr y[0]:=Q8 hb;simp only[BB]at Ww;have gx:x.getD (0) 0=0:=by simp[show x.length<=0 by omega]
     have gy:y.getD (0) 0=y[0]:=by simp[hb]
     generalize y[0]=yi at *
     obtain⟨t,ht⟩:∃ t,t=c+yi:=⟨_,rfl⟩
     have et:(c:Int)+(yi:Int)=(t:Int):=by omega
     have Xq:c+col [x,y] (0)=t:=by simp only[col,wat,waL,wbA,wci,gx,gy];omega
     rw[Xq]at Y0;have WP:t<1000000000000:=by omega
     have Kj:t%1000000000<1000000000:=waw _ (by decide)
     (iterate 3((try simp only[go_sem,YF,V5,Xl,YQ]);try simp(disch:=omega)only[QC,QD,et,Zx]))
     refine zcs (Qd _) (sz:=1) (bytes:=4) (by simp only[go_sem,QW]<;>decide) Z3 [t%1000000000] (by simp only[go_sem]<;>rfl) (by simp only[go_sem]<;>rfl) rfl (by simp) (by simp) (by simp only[go_sem]) (by decide) ?_
     (iterate 3((try simp only[go_sem,QS]);try simp(disch:=omega)only[Q4,QC]))
     refine⟨(([]:List Nat)++[t%1000000000],t/1000000000),⟨by simp only[Qj,Qe,Qi]at *;omega,by simpa[BB]using Y0,fun h=>by simp only[Qj,Qe,Qi]at *;omega⟩,(by show M+1-(([]:List Nat)++[t%1000000000]).length<M+1-([]:List Nat).length;simp only[Qj,Qe,Qi]at *;omega),?_⟩;refine Q6 rfl ?_ ?_ rfl ?_<;>(iterate 3((try simp only[go_sem,QF,Qe,Qi]);try simp(disch:=omega)only[Q4,QC,QD,Q8,QF,Qj,Qe,Qi]))<;>simp
   .have YF:¬(0:Int)<(M:Int):=by omega
    by_cases XN:c=0
    .subst XN
     have Vf:=hs.fin FS (by omega) (by omega)
     (iterate 3((try simp only[go_sem,YF]);try simp(disch:=omega)only[Q4,QC,QD,Q8,YF]))
     refine zfe (tvs':=[.one (.seq (some true) [])]) (zfz [] (by simp)) rfl (.cons fzW .nil) ?_;simp only[go_sem];rw[Vf];exact Yk
    .have LI:0=M:=by
      rcases wau M (0)with h|h
      .exact Qn (hz h) XN
      .omega
     have V5:¬(0:Int)<(x.length:Int):=by omega
     have Xl:¬(0:Int)<(y.length:Int):=by omega
     have gx:x.getD (0) 0=0:=by simp[show x.length<=0 by omega]
     have gy:y.getD (0) 0=0:=by simp[show y.length<=0 by omega]
     obtain⟨t,ht⟩:∃ t,t=c:=⟨_,rfl⟩
     have et:(c:Int)=(t:Int):=by omega
     have Xq:c+col [x,y] (0)=t:=by simp only[col,wat,waL,wbA,wci,gx,gy];omega
     rw[Xq]at Y0;have WP:t<1000000000000:=by omega
     have Kj:t%1000000000<1000000000:=waw _ (by decide);have O9:t/1000000000=0:=wbp (by omega);have JV:(0:Int)<(c:Int):=by omega
     have Kk:(0:Int)<(t:Int):=by omega
     (iterate 3((try simp only[go_sem,YF,V5,Xl,Kk,et,Zx]);try simp(disch:=omega)only[QD]))
     refine zcs (Qd _) (sz:=1) (bytes:=4) (by simp only[go_sem,QW]<;>decide) Z3 [t%1000000000] (by simp only[go_sem]<;>rfl) (by simp only[go_sem]<;>rfl) rfl (by simp) (by simp) (by simp only[go_sem]) (by decide) ?_
     (iterate 3((try simp only[go_sem,QS]);try simp(disch:=omega)only[Q4,QC]))
     refine⟨(([]:List Nat)++[t%1000000000],t/1000000000),⟨by simp only[Qj,Qe,Qi]at *;omega,by simpa[BB]using Y0,fun h=>by simp only[Qj,Qe,Qi]at *;omega⟩,(by show M+1-(([]:List Nat)++[t%1000000000]).length<M+1-([]:List Nat).length;simp only[Qj,Qe,Qi]at *;omega),?_⟩;refine Q6 rfl ?_ ?_ rfl ?_<;>(iterate 3((try simp only[go_sem,QF,Qe,Qi]);try simp(disch:=omega)only[Q4,QC,QD,Q8,QF,Qj,Qe,Qi]))<;>simp
  |cons d0 l =>
   simp only[Qe]at *
   simp only[go_sem];refine zdQ rfl (by simp only[go_sem]<;>rfl) (by simp only[go_sem]<;>rfl) (Qd _) ?_;rw[eM];have VW:((l.length:Int)+1).toNat=l.length+1:=by omega
   by_cases Y1:l.length+1<M
   .have YF:(l.length:Int)+1<(M:Int):=by omega
    by_cases ha:l.length+1<x.length
    .by_cases hb:l.length+1<y.length
     ·
      have V5:(l.length:Int)+1<(x.length:Int):=by omega
      have Xl:(l.length:Int)+1<(y.length:Int):=by omega
      have Vm:=hx _ (Qf ha);have Y5:QP Zr x (l.length+1)=Zr x[l.length+1]:=Q8 ha;simp only[BB]at Vm;have Ww:=hy _ (Qf hb);have YQ:QP Zr y (l.length+1)=Zr y[l.length+1]:=Q8 hb;simp only[BB]at Ww;have gx:x.getD (l.length+1) 0=x[l.length+1]:=by simp[ha]
      generalize x[l.length+1]=xi at *
      have gy:y.getD (l.length+1) 0=y[l.length+1]:=by simp[hb]
      generalize y[l.length+1]=yi at *
      obtain⟨t,ht⟩:∃ t,t=c+xi+yi:=⟨_,rfl⟩
      have et:(c:Int)+(xi:Int)+(yi:Int)=(t:Int):=by omega
      have Xq:c+col [x,y] (l.length+1)=t:=by simp only[col,wat,waL,wbA,wci,gx,gy];omega
      rw[Xq]at Y0;have WP:t<1000000000000:=by omega
      have Kj:t%1000000000<1000000000:=waw _ (by decide)
      (iterate 3((try simp only[go_sem,YF,V5,Xl,Y5,YQ,VW]);try simp(disch:=omega)only[QC,QD,et,Zx]))
      refine⟨by omega,by omega,?_⟩;refine zar (Qd _) (sz:=1) (bytes:=4) (by simp only[go_sem,QW]<;>decide) Z3 (d0::l) [t%1000000000] (by simp only[go_sem]<;>rfl) rfl (by simp only[go_sem]) (by simp only[go_sem]<;>rfl) rfl (by simp only[Qe]at *;simp;omega) (by decide) ?_
      (iterate 3((try simp only[go_sem,QS]);try simp(disch:=omega)only[Q4,QC]))
      refine⟨((d0::l)++[t%1000000000],t/1000000000),⟨by simp only[Qj,Qe,Qi]at *;omega,by simpa[BB]using Y0,fun h=>by simp only[Qj,Qe,Qi]at *;omega⟩,(by show M+1-((d0::l)++[t%1000000000]).length<M+1-(d0::l).length;simp only[Qj,Qe,Qi]at *;omega),?_⟩;refine Q6 rfl ?_ ?_ rfl ?_<;>(iterate 3((try simp only[go_sem,QF,Qj,Qe,Qi]);try simp(disch:=omega)only[Q4,QC,QD,Q8,QF,Qj,Qe,Qi]))<;>simp
     ·
      have V5:(l.length:Int)+1<(x.length:Int):=by omega
      have Xl:¬(l.length:Int)+1<(y.length:Int):=by omega
      have Vm:=hx _ (Qf ha);have Y5:QP Zr x (l.length+1)=Zr x[l.length+1]:=Q8 ha;simp only[BB]at Vm;have gx:x.getD (l.length+1) 0=x[l.length+1]:=by simp[ha]
      generalize x[l.length+1]=xi at *
      have gy:y.getD (l.length+1) 0=0:=by simp[show y.length<=l.length+1 by omega]
      obtain⟨t,ht⟩:∃ t,t=c+xi:=⟨_,rfl⟩
      have et:(c:Int)+(xi:Int)=(t:Int):=by omega
      have Xq:c+col [x,y] (l.length+1)=t:=by simp only[col,wat,waL,wbA,wci,gx,gy];omega
      rw[Xq]at Y0;have WP:t<1000000000000:=by omega
      have Kj:t%1000000000<1000000000:=waw _ (by decide)
      (iterate 3((try simp only[go_sem,YF,V5,Xl,Y5,VW]);try simp(disch:=omega)only[QC,QD,et,Zx]))
      refine⟨by omega,?_⟩;refine zar (Qd _) (sz:=1) (bytes:=4) (by simp only[go_sem,QW]<;>decide) Z3 (d0::l) [t%1000000000] (by simp only[go_sem]<;>rfl) rfl (by simp only[go_sem]) (by simp only[go_sem]<;>rfl) rfl (by simp only[Qe]at *;simp;omega) (by decide) ?_
      (iterate 3((try simp only[go_sem,QS]);try simp(disch:=omega)only[Q4,QC]))
      refine⟨((d0::l)++[t%1000000000],t/1000000000),⟨by simp only[Qj,Qe,Qi]at *;omega,by simpa[BB]using Y0,fun h=>by simp only[Qj,Qe,Qi]at *;omega⟩,(by show M+1-((d0::l)++[t%1000000000]).length<M+1-(d0::l).length;simp only[Qj,Qe,Qi]at *;omega),?_⟩;refine Q6 rfl ?_ ?_ rfl ?_<;>(iterate 3((try simp only[go_sem,QF,Qj,Qe,Qi]);try simp(disch:=omega)only[Q4,QC,QD,Q8,QF,Qj,Qe,Qi]))<;>simp
    .have hb:l.length+1<y.length:=by omega
     have V5:¬(l.length:Int)+1<(x.length:Int):=by omega
     have Xl:(l.length:Int)+1<(y.length:Int):=by omega
     have Ww:=hy _ (Qf hb);have YQ:QP Zr y (l.length+1)=Zr y[l.length+1]:=Q8 hb;simp only[BB]at Ww;have gx:x.getD (l.length+1) 0=0:=by simp[show x.length<=l.length+1 by omega]
     have gy:y.getD (l.length+1) 0=y[l.length+1]:=by simp[hb]
     generalize y[l.length+1]=yi at *
     obtain⟨t,ht⟩:∃ t,t=c+yi:=⟨_,rfl⟩
     have et:(c:Int)+(yi:Int)=(t:Int):=by omega
     have Xq:c+col [x,y] (l.length+1)=t:=by simp only[col,wat,waL,wbA,wci,gx,gy];omega
     rw[Xq]at Y0;have WP:t<1000000000000:=by omega
     have Kj:t%1000000000<1000000000:=waw _ (by decide)
     (iterate 3((try simp only[go_sem,YF,V5,Xl,YQ,VW]);try simp(disch:=omega)only[QC,QD,et,Zx]))
     refine⟨by omega,?_⟩;refine zar (Qd _) (sz:=1) (bytes:=4) (by simp only[go_sem,QW]<;>decide) Z3 (d0::l) [t%1000000000] (by simp only[go_sem]<;>rfl) rfl (by simp only[go_sem]) (by simp only[go_sem]<;>rfl) rfl (by simp only[Qe]at *;simp;omega) (by decide) ?_
     (iterate 3((try simp only[go_sem,QS]);try simp(disch:=omega)only[Q4,QC]))
     refine⟨((d0::l)++[t%1000000000],t/1000000000),⟨by simp only[Qj,Qe,Qi]at *;omega,by simpa[BB]using Y0,fun h=>by simp only[Qj,Qe,Qi]at *;omega⟩,(by show M+1-((d0::l)++[t%1000000000]).length<M+1-(d0::l).length;simp only[Qj,Qe,Qi]at *;omega),?_⟩;refine Q6 rfl ?_ ?_ rfl ?_<;>(iterate 3((try simp only[go_sem,QF,Qj,Qe,Qi]);try simp(disch:=omega)only[Q4,QC,QD,Q8,QF,Qj,Qe,Qi]))<;>simp
   .have YF:¬(l.length:Int)+1<(M:Int):=by omega
    by_cases XN:c=0
    .subst XN
     have Vf:=hs.fin FS (by omega) (by omega)
     (iterate 3((try simp only[go_sem,YF]);try simp(disch:=omega)only[Q4,QC,QD,Q8,YF]))
     refine zcd 54 1 (l.length+1) rfl (zfz (d0::l) (by simp only[Qe]at *;omega)) (by simp only[go_sem]<;>rfl) (by rw[show l.length+1=(d0::l).length from rfl];exact Yp Z3) ?_ ?_
     .simp only[go_sem]<;>rfl
     .simp only[go_sem]
      rw[Vf];exact Yk
    .have LI:l.length+1=M:=by
      rcases wau M (l.length+1)with h|h
      .exact Qn (hz h) XN
      .omega
     have V5:¬(l.length:Int)+1<(x.length:Int):=by omega
     have Xl:¬(l.length:Int)+1<(y.length:Int):=by omega
     have gx:x.getD (l.length+1) 0=0:=by simp[show x.length<=l.length+1 by omega]
     have gy:y.getD (l.length+1) 0=0:=by simp[show y.length<=l.length+1 by omega]
     obtain⟨t,ht⟩:∃ t,t=c:=⟨_,rfl⟩
     have et:(c:Int)=(t:Int):=by omega
     have Xq:c+col [x,y] (l.length+1)=t:=by simp only[col,wat,waL,wbA,wci,gx,gy];omega
     rw[Xq]at Y0;have WP:t<1000000000000:=by omega
     have Kj:t%1000000000<1000000000:=waw _ (by decide);have O9:t/1000000000=0:=wbp (by omega);have JV:(0:Int)<(c:Int):=by omega
     have Kk:(0:Int)<(t:Int):=by omega
     (iterate 3((try simp only[go_sem,YF,V5,Xl,Kk,et,Zx]);try simp(disch:=omega)only[QD]))
     refine zar (Qd _) (sz:=1) (bytes:=4) (by simp only[go_sem,QW]<;>decide) Z3 (d0::l) [t%1000000000] (by simp only[go_sem]<;>rfl) rfl (by simp only[go_sem]) (by simp only[go_sem]<;>rfl) rfl (by simp only[Qe]at *;simp;omega) (by decide) ?_
     (iterate 3((try simp only[go_sem,QS]);try simp(disch:=omega)only[Q4,QC]))
     refine⟨((d0::l)++[t%1000000000],t/1000000000),⟨by simp only[Qj,Qe,Qi]at *;omega,by simpa[BB]using Y0,fun h=>by simp only[Qj,Qe,Qi]at *;omega⟩,(by show M+1-((d0::l)++[t%1000000000]).length<M+1-(d0::l).length;simp only[Qj,Qe,Qi]at *;omega),?_⟩;refine Q6 rfl ?_ ?_ rfl ?_<;>(iterate 3((try simp only[go_sem,QF,Qj,Qe,Qi]);try simp(disch:=omega)only[Q4,QC,QD,Q8,QF,Qj,Qe,Qi]))<;>simp
theorem zk6(a b:List Nat)(ha:a.length<5000000000000)(hb:b.length<5000000000000):Q7 prog 71 [tN a,tN b] (tN (dig (vN a-vN b))):=by
 refine QH QB call71 func71 rfl ntmps71 results71 (by simp) (by decide) ?_;simp only[go_sem];refine Q2 (zdr a (by omega)) rfl ?_;simp only[go_sem];refine Q2 (zdr b (by omega)) rfl ?_;simp only[go_sem];have UG:=zam a;have VS:=zam b;have hX:=zaf a;have hY:=zaf b;refine Q2 (zhh (held a) (held b) (by omega) (by omega)) rfl ?_;rw[show vN (held a)=vN a by rw[<-zgC,Zk],show vN (held b)=vN b by rw[<-zgC,Zk]];simp only[go_sem];refine QI (fun Xb=>?_) (fun Wo=>?_)
 .simp only[go_sem]
  have:vN a<=vN b:=by
   unfold Za at Xb;split at Xb
   .omega
   .split at Xb<;>omega
  rw[show vN a-vN b=0 by omega,Zg];exact zcA
 .have Y1:vN b<vN a:=by
   unfold Za at Wo;split at Wo
   .omega
   .split at Wo<;>omega
  clear Wo;unfold vN at Y1 ⊢;generalize held a=x at *
  generalize held b=y at *
  have Es:y.length<=x.length:=by
   rcases wau x.length y.length with h|h
   .have:=zeV hX hY h;omega
   .exact h
  have hx:=hX.1;have hy:=hY.1;simp only[go_sem];refine QJ (fun p:List Nat×Nat=>match p.1 with
    |[]=>stL 54 [(5,aN x),(6,aN y),(7,.one (.t (.seq (some true) []))),(8,litI .i64 p.2),(9,litI .i64 0)] []
    |_::_=>stL 54 [(5,aN x),(6,aN y),(7,.one (.vec 51 1 0 p.1.length)),(8,litI .i64 p.2),(9,litI .i64 p.1.length)] [(51,cN p.1)])
   (fun p=>p.1.length<=x.length/\zdw x y p.1.length p.1 p.2) (fun p=>x.length-p.1.length) ([],0) ?_ ⟨Qk _,rfl,by simp,Qk _,by simp[val]⟩ ?_
  .refine Q6 rfl ?_ ?_ rfl ?_<;>simp only[go_sem]<;>simp
  .rintro⟨ds,c⟩ ⟨Vd,hs⟩
   simp only at Vd hs;have hc:=hs.2.2.1;cases ds with
   |nil =>
    simp only[Qi]at *
    by_cases KS:0<x.length
    .have Vy:(0:Int)<(x.length:Int):=by omega
     have Vm:=hx _ (Qf KS);have Y5:QP Zr x (0)=Zr x[0]:=Q8 KS;have gx:x.getD (0) 0=x[0]:=by simp[KS]
     simp only[BB]at Vm;generalize x[0]=xi at *
     by_cases hb:0<y.length
     .have Xl:(0:Int)<(y.length:Int):=by omega
      have Ww:=hy _ (Qf hb);have YQ:QP Zr y (0)=Zr y[0]:=Q8 hb;have gy:y.getD (0) 0=y[0]:=by simp[hb]
      simp only[BB]at Ww;generalize y[0]=yi at *
      by_cases JP:xi<c+yi
      .obtain⟨e,he⟩:∃ e,e+c+yi=xi+1000000000:=⟨xi+1000000000-c-yi,by omega⟩
       have Xh:(xi:Int)-(c:Int)-(yi:Int)<0:=by omega
       have ee:(xi:Int)-(c:Int)-(yi:Int)+1000000000=(e:Int):=by omega
       have Y0:=hs.step (d:=e) (c':=1) (by simp only[BB];omega) (by decide) (by rw[gx,gy];simp only[BB];omega)
       (iterate 3((try simp only[go_sem,Vy,Xl,Y5,YQ,ee]);try simp(disch:=omega)only[Q4,QD,Xh]))
       refine zcs (Qd _) (sz:=1) (bytes:=4) (by simp only[go_sem,QW]<;>decide) Z3 [e] (by simp only[go_sem]<;>rfl) (by simp only[go_sem]<;>rfl) rfl (by simp) (by simp) (by simp only[go_sem]) (by decide) ?_
       (iterate 3((try simp only[go_sem]);try simp(disch:=omega)only[Q4]))
       refine⟨(([]:List Nat)++[e],1),⟨by simp only[Qj,Qe,Qi]at *;omega,by simpa using Y0⟩,(by show x.length-(([]:List Nat)++[e]).length<x.length-([]:List Nat).length;simp only[Qj,Qe,Qi]at *;omega),?_⟩;refine Q6 rfl ?_ ?_ rfl ?_<;>(iterate 3((try simp only[go_sem,QF,Qe,Qi]);try simp(disch:=omega)only[Q4,QC,QD,Q8,QF,Qj,Qe,Qi]))<;>simp
      .obtain⟨e,he⟩:∃ e,e+c+yi=xi:=⟨xi-c-yi,by omega⟩
       have Xh:¬(e:Int)<0:=by omega
       have ee:(xi:Int)-(c:Int)-(yi:Int)=(e:Int):=by omega
       have Y0:=hs.step (d:=e) (c':=0) (by simp only[BB];omega) (by decide) (by rw[gx,gy];simp only[BB];omega)
       (iterate 3((try simp only[go_sem,Vy,Xl,Y5,YQ]);try simp(disch:=omega)only[Q4,QD,Xh,ee]))
       refine zcs (Qd _) (sz:=1) (bytes:=4) (by simp only[go_sem,QW]<;>decide) Z3 [e] (by simp only[go_sem]<;>rfl) (by simp only[go_sem]<;>rfl) rfl (by simp) (by simp) (by simp only[go_sem]) (by decide) ?_
       (iterate 3((try simp only[go_sem]);try simp(disch:=omega)only[Q4]))
       refine⟨(([]:List Nat)++[e],0),⟨by simp only[Qj,Qe,Qi]at *;omega,by simpa using Y0⟩,(by show x.length-(([]:List Nat)++[e]).length<x.length-([]:List Nat).length;simp only[Qj,Qe,Qi]at *;omega),?_⟩;refine Q6 rfl ?_ ?_ rfl ?_<;>(iterate 3((try simp only[go_sem,QF,Qe,Qi]);try simp(disch:=omega)only[Q4,QC,QD,Q8,QF,Qj,Qe,Qi]))<;>simp
     .have Xl:¬(0:Int)<(y.length:Int):=by omega
      have gy:y.getD (0) 0=0:=by simp[show y.length<=0 by omega]
      by_cases JP:xi<c+0
      .obtain⟨e,he⟩:∃ e,e+c+0=xi+1000000000:=⟨xi+1000000000-c-0,by omega⟩
       have Xh:(xi:Int)-(c:Int)<0:=by omega
       have ee:(xi:Int)-(c:Int)+1000000000=(e:Int):=by omega
       have Y0:=hs.step (d:=e) (c':=1) (by simp only[BB];omega) (by decide) (by rw[gx,gy];simp only[BB];omega)
       (iterate 3((try simp only[go_sem,Vy,Xl,Y5,ee]);try simp(disch:=omega)only[Q4,QD,Xh]))
       refine zcs (Qd _) (sz:=1) (bytes:=4) (by simp only[go_sem,QW]<;>decide) Z3 [e] (by simp only[go_sem]<;>rfl) (by simp only[go_sem]<;>rfl) rfl (by simp) (by simp) (by simp only[go_sem]) (by decide) ?_
       (iterate 3((try simp only[go_sem]);try simp(disch:=omega)only[Q4]))
       refine⟨(([]:List Nat)++[e],1),⟨by simp only[Qj,Qe,Qi]at *;omega,by simpa using Y0⟩,(by show x.length-(([]:List Nat)++[e]).length<x.length-([]:List Nat).length;simp only[Qj,Qe,Qi]at *;omega),?_⟩;refine Q6 rfl ?_ ?_ rfl ?_<;>(iterate 3((try simp only[go_sem,QF,Qe,Qi]);try simp(disch:=omega)only[Q4,QC,QD,Q8,QF,Qj,Qe,Qi]))<;>simp
      .obtain⟨e,he⟩:∃ e,e+c+0=xi:=⟨xi-c-0,by omega⟩
       have Xh:¬(e:Int)<0:=by omega
       have ee:(xi:Int)-(c:Int)=(e:Int):=by omega
       have Y0:=hs.step (d:=e) (c':=0) (by simp only[BB];omega) (by decide) (by rw[gx,gy];simp only[BB];omega)
       (iterate 3((try simp only[go_sem,Vy,Xl,Y5]);try simp(disch:=omega)only[Q4,QD,Xh,ee]))
       refine zcs (Qd _) (sz:=1) (bytes:=4) (by simp only[go_sem,QW]<;>decide) Z3 [e] (by simp only[go_sem]<;>rfl) (by simp only[go_sem]<;>rfl) rfl (by simp) (by simp) (by simp only[go_sem]) (by decide) ?_
       (iterate 3((try simp only[go_sem]);try simp(disch:=omega)only[Q4]))
       refine⟨(([]:List Nat)++[e],0),⟨by simp only[Qj,Qe,Qi]at *;omega,by simpa using Y0⟩,(by show x.length-(([]:List Nat)++[e]).length<x.length-([]:List Nat).length;simp only[Qj,Qe,Qi]at *;omega),?_⟩;refine Q6 rfl ?_ ?_ rfl ?_<;>(iterate 3((try simp only[go_sem,QF,Qe,Qi]);try simp(disch:=omega)only[Q4,QC,QD,Q8,QF,Qj,Qe,Qi]))<;>simp
    .have Vy:¬(0:Int)<(x.length:Int):=by omega
     exfalso;have:x=[]:=wbd.1 (by omega);subst this;simp[val]at Y1
   |cons d0 l =>
    simp only[Qe]at *
    have VW:((l.length:Int)+1).toNat=l.length+1:=by omega
    by_cases KS:l.length+1<x.length
    .have Vy:(l.length:Int)+1<(x.length:Int):=by omega
     have Vm:=hx _ (Qf KS);have Y5:QP Zr x (l.length+1)=Zr x[l.length+1]:=Q8 KS;have gx:x.getD (l.length+1) 0=x[l.length+1]:=by simp[KS]
     simp only[BB]at Vm;generalize x[l.length+1]=xi at *
     by_cases hb:l.length+1<y.length
     .have Xl:(l.length:Int)+1<(y.length:Int):=by omega
      have Ww:=hy _ (Qf hb);have YQ:QP Zr y (l.length+1)=Zr y[l.length+1]:=Q8 hb;have gy:y.getD (l.length+1) 0=y[l.length+1]:=by simp[hb]
      simp only[BB]at Ww;generalize y[l.length+1]=yi at *
      by_cases JP:xi<c+yi
      .obtain⟨e,he⟩:∃ e,e+c+yi=xi+1000000000:=⟨xi+1000000000-c-yi,by omega⟩
       have Xh:(xi:Int)-(c:Int)-(yi:Int)<0:=by omega
       have ee:(xi:Int)-(c:Int)-(yi:Int)+1000000000=(e:Int):=by omega
       have Y0:=hs.step (d:=e) (c':=1) (by simp only[BB];omega) (by decide) (by rw[gx,gy];simp only[BB];omega)
       (iterate 3((try simp only[go_sem,Vy,Xl,Y5,YQ,VW,ee]);try simp(disch:=omega)only[Q4,QD,Xh]))
       refine⟨by omega,by omega,?_⟩;refine zar (Qd _) (sz:=1) (bytes:=4) (by simp only[go_sem,QW]<;>decide) Z3 (d0::l) [e] (by simp only[go_sem]<;>rfl) rfl (by simp only[go_sem]) (by simp only[go_sem]<;>rfl) rfl (by simp only[Qe]at *;simp;omega) (by decide) ?_
       (iterate 3((try simp only[go_sem]);try simp(disch:=omega)only[Q4]))
       refine⟨((d0::l)++[e],1),⟨by simp only[Qj,Qe,Qi]at *;omega,by simpa using Y0⟩,(by show x.length-((d0::l)++[e]).length<x.length-(d0::l).length;simp only[Qj,Qe,Qi]at *;omega),?_⟩;refine Q6 rfl ?_ ?_ rfl ?_<;>(iterate 3((try simp only[go_sem,QF,Qj,Qe,Qi]);try simp(disch:=omega)only[Q4,QC,QD,Q8,QF,Qj,Qe,Qi]))<;>simp
      .obtain⟨e,he⟩:∃ e,e+c+yi=xi:=⟨xi-c-yi,by omega⟩
       have Xh:¬(e:Int)<0:=by omega
       have ee:(xi:Int)-(c:Int)-(yi:Int)=(e:Int):=by omega
       have Y0:=hs.step (d:=e) (c':=0) (by simp only[BB];omega) (by decide) (by rw[gx,gy];simp only[BB];omega)
       (iterate 3((try simp only[go_sem,Vy,Xl,Y5,YQ,VW]);try simp(disch:=omega)only[Q4,QD,Xh,ee]))
       refine⟨by omega,by omega,?_⟩;refine zar (Qd _) (sz:=1) (bytes:=4) (by simp only[go_sem,QW]<;>decide) Z3 (d0::l) [e] (by simp only[go_sem]<;>rfl) rfl (by simp only[go_sem]) (by simp only[go_sem]<;>rfl) rfl (by simp only[Qe]at *;simp;omega) (by decide) ?_
       (iterate 3((try simp only[go_sem]);try simp(disch:=omega)only[Q4]))
       refine⟨((d0::l)++[e],0),⟨by simp only[Qj,Qe,Qi]at *;omega,by simpa using Y0⟩,(by show x.length-((d0::l)++[e]).length<x.length-(d0::l).length;simp only[Qj,Qe,Qi]at *;omega),?_⟩;refine Q6 rfl ?_ ?_ rfl ?_<;>(iterate 3((try simp only[go_sem,QF,Qj,Qe,Qi]);try simp(disch:=omega)only[Q4,QC,QD,Q8,QF,Qj,Qe,Qi]))<;>simp
     .have Xl:¬(l.length:Int)+1<(y.length:Int):=by omega
      have gy:y.getD (l.length+1) 0=0:=by simp[show y.length<=l.length+1 by omega]
      by_cases JP:xi<c+0
      .obtain⟨e,he⟩:∃ e,e+c+0=xi+1000000000:=⟨xi+1000000000-c-0,by omega⟩
       have Xh:(xi:Int)-(c:Int)<0:=by omega
       have ee:(xi:Int)-(c:Int)+1000000000=(e:Int):=by omega
       have Y0:=hs.step (d:=e) (c':=1) (by simp only[BB];omega) (by decide) (by rw[gx,gy];simp only[BB];omega)
       (iterate 3((try simp only[go_sem,Vy,Xl,Y5,VW,ee]);try simp(disch:=omega)only[Q4,QD,Xh]))
       refine⟨by omega,?_⟩;refine zar (Qd _) (sz:=1) (bytes:=4) (by simp only[go_sem,QW]<;>decide) Z3 (d0::l) [e] (by simp only[go_sem]<;>rfl) rfl (by simp only[go_sem]) (by simp only[go_sem]<;>rfl) rfl (by simp only[Qe]at *;simp;omega) (by decide) ?_
       (iterate 3((try simp only[go_sem]);try simp(disch:=omega)only[Q4]))
       refine⟨((d0::l)++[e],1),⟨by simp only[Qj,Qe,Qi]at *;omega,by simpa using Y0⟩,(by show x.length-((d0::l)++[e]).length<x.length-(d0::l).length;simp only[Qj,Qe,Qi]at *;omega),?_⟩;refine Q6 rfl ?_ ?_ rfl ?_<;>(iterate 3((try simp only[go_sem,QF,Qj,Qe,Qi]);try simp(disch:=omega)only[Q4,QC,QD,Q8,QF,Qj,Qe,Qi]))<;>simp
      .obtain⟨e,he⟩:∃ e,e+c+0=xi:=⟨xi-c-0,by omega⟩
       have Xh:¬(e:Int)<0:=by omega
       have ee:(xi:Int)-(c:Int)=(e:Int):=by omega
       have Y0:=hs.step (d:=e) (c':=0) (by simp only[BB];omega) (by decide) (by rw[gx,gy];simp only[BB];omega)
       (iterate 3((try simp only[go_sem,Vy,Xl,Y5,VW]);try simp(disch:=omega)only[Q4,QD,Xh,ee]))
       refine⟨by omega,?_⟩;refine zar (Qd _) (sz:=1) (bytes:=4) (by simp only[go_sem,QW]<;>decide) Z3 (d0::l) [e] (by simp only[go_sem]<;>rfl) rfl (by simp only[go_sem]) (by simp only[go_sem]<;>rfl) rfl (by simp only[Qe]at *;simp;omega) (by decide) ?_
       (iterate 3((try simp only[go_sem]);try simp(disch:=omega)only[Q4]))
       refine⟨((d0::l)++[e],0),⟨by simp only[Qj,Qe,Qi]at *;omega,by simpa using Y0⟩,(by show x.length-((d0::l)++[e]).length<x.length-(d0::l).length;simp only[Qj,Qe,Qi]at *;omega),?_⟩;refine Q6 rfl ?_ ?_ rfl ?_<;>(iterate 3((try simp only[go_sem,QF,Qj,Qe,Qi]);try simp(disch:=omega)only[Q4,QC,QD,Q8,QF,Qj,Qe,Qi]))<;>simp
    .have Vy:¬(l.length:Int)+1<(x.length:Int):=by omega
     have Xb:l.length+1=x.length:=by omega
     rw[Xb]at hs;have Vf:=hs.done Es Y1
     (iterate 3((try simp only[go_sem,Vy]);try simp(disch:=omega)only[Q4,QC,QD,Q8,Vy]))
     refine zcd 51 1 (l.length+1) rfl (zfz (d0::l) (by simp only[Qe]at *;omega)) (by simp only[go_sem]<;>rfl) (by rw[show l.length+1=(d0::l).length from rfl];exact Yp Z3) ?_ ?_
     .simp only[go_sem]<;>rfl
     .simp only[go_sem]
      rw[Vf];exact Yk
theorem zm1{y:List Nat}{k:Nat}(hy:∀ z∈y,z<BB):val (y.drop k)<BB^y.length :=
 wbf (Yu fun z hz=>hy z (wed hz)) (waW (by decide) (by rw[wef];omega))
theorem zsn{x y:List Nat}{k:Nat}(hx:∀ z∈x,z<BB)(hy:∀ z∈y,z<BB):(dig (val x*val (y.drop k))).length<=x.length+y.length:=zaz (by
 rw[wbl];have h1:=Yu hx;have h2:=zm1 (k:=k) hy;exact wcA h1 h2)
theorem znJ{m low:Nat}(hl:low<BB):trimZ (low::dig m)=dig (low+BB*m):=by
 rw[zcL (fun z hz=>by rcases wad.1 hz with rfl|hz;exact hl;exact zcQ m z hz)];simp[val,zaX]
theorem zvt(a b:List Nat)(ha:a.length<2000000000000)(hb:b.length<2000000000000):Q7 prog 48 [tN a,tN b] (tN (dig (vN a*vN b))):=by
 refine QH QB call48 func48 rfl ntmps48 results48 (by simp) (by decide) ?_;simp only[go_sem];refine Q2 (zdr a (by omega)) rfl ?_;simp only[go_sem];refine Q2 (zdr b (by omega)) rfl ?_;have UG:=zam a;have VS:=zam b;have hX:=zaf a;have hY:=zaf b;unfold vN;generalize held a=x at *
 generalize held b=y at *
 have hx:=hX.1;have hy:=hY.1
 (iterate 3((try simp only[go_sem]);try simp(disch:=omega)only[Q4]))
 refine QJ (fun k:Nat=>stL 31 [(5,aN x),(6,aN y),(7,aN (dig (val x*val (y.drop k)))),(8,litI .i64 ((k:Int)-1))] []) (fun k=>k<=y.length) (fun k=>k) y.length ?_ (Qd _) ?_
 .refine GStep.trans (zik 7 (nl:=some true) (xs:=[]) (by simp only[go_sem])) ?_
  rw[wbk,show val x*val []=0 from waV _,Zg];refine Q6 rfl ?_ ?_ rfl rfl<;>(iterate 3((try simp only[go_sem]);try simp(disch:=omega)only[Q4,QC,QD,Q8]))<;>simp;all_goals rfl
 .intro k hk
  simp only[go_sem];refine QI (fun YI=>?_) (fun YI=>?_)
  .obtain⟨i,rfl⟩:∃ i,k=i+1:=⟨k-1,by omega⟩
   have e:((i+1:Nat):Int)-1=(i:Int):=by omega
   have e':(i:Int)+1-1=(i:Int):=by omega
   have hi:i<y.length:=by omega
   have Ww:=hy _ (Qf hi);have Y4:=zsn (k:=i+1) hx hy;have XU:=zpy (dig (val x*val (y.drop (i+1)))) 0 (by omega);rw[znJ (by decide),waT]at XU;have XO:=zly x y[i] (by omega) hx Ww;have Uk:(dig (y[i]*val x)).length<=x.length+1:=zaz (by
    rw[waJ,Qu];exact wcA (Yu hx) Ww)
   have KN:(dig (BB*(val x*val (y.drop (i+1))))).length<=x.length+y.length+1:=zaz (by
    have h1:val x*val (y.drop (i+1))<BB^(x.length+y.length):=by rw[wbl];exact wcA (Yu hx) (zm1 hy)
    rw[waJ,Qu];exact wdv h1 (by decide))
   have JY:=zkT (dig (BB*(val x*val (y.drop (i+1))))) (dig (y[i]*val x)) (by omega) (by omega);rw[Zk,Zk]at JY;have Y9:BB*(val x*val (y.drop (i+1)))+y[i]*val x=val x*val (y.drop i):=by
    rw[waD hi];simp only[val,wae];rw[Qu y[i],<-waf,<-waf,Qu BB];omega
   rw[Y9]at JY;have Y5:QP Zr y i=Zr y[i]:=Q8 hi;simp only[BB]at Ww;generalize y[i]=yi at *
   (iterate 3((try simp only[go_sem,e']);try simp(disch:=omega)only[Q4,QC,QD,Q8,e,e']))
   refine Q3 0 rfl ?_
   (iterate 3((try simp only[go_sem]);try simp(disch:=omega)only[Q4,QC,QD,Q8,e,e']))
   refine Q2 XU rfl ?_
   (iterate 3((try simp only[go_sem,Y5]);try simp(disch:=omega)only[QC]))
   refine⟨by omega,Q2 XO rfl ?_⟩
   (iterate 3((try simp only[go_sem]);try simp(disch:=omega)only[Q4,QC,QD,Q8,e,e']))
   refine Q2 JY rfl ?_
   (iterate 3((try simp only[go_sem]);try simp(disch:=omega)only[Q4]))
   refine⟨i,by omega,waO i,?_⟩;refine Q6 rfl ?_ ?_ rfl rfl<;>(iterate 3((try simp only[go_sem]);try simp(disch:=omega)only[Q4,QC,QD,Q8,e,e']))<;>simp
  .obtain rfl:k=0:=by omega
   rw[wcf];simp only[go_sem];exact Yk
theorem ByI.nextV{x qs:List Nat}{n i l q T:Nat}(h:ByI x n (i+1) qs l)(hi:i<x.length)(hx:x[i]<BB)(hT:T=x[i]+BB*l)(h1:q*n<=T)(h2:T<(q+1)*n):ByI x n i (q::qs) (T-q*n):=by
 obtain⟨g1,g2,g3,g4⟩:=h;rw[war,wcS]at h2;refine⟨by simp;omega,fun z hz=>?_,by omega,?_⟩
 .rcases wad.1 hz with rfl|hz
  .rcases wau z BB with h|h
   .exact h
   .exfalso
    have h3:BB*n<=z*n:=wag _ h;have h4:BB*(l+1)<=BB*n:=waq _ g3;rw[wae]at h4;omega
  .exact g2 z hz
 .rw[waD hi]
  simp only[val];rw[<-g4,war,wae,waf];omega
theorem zn8(a b:List Nat)(ha:a.length<2000000000000)(hb:b.length<2000000000000):Q7 prog 41 [tN a,tN b] (.tup [tN (dig (vN a/vN b)),tN (dig (vN a%vN b))]):=by
 refine QH QB call41 func41 rfl ntmps41 results41 (by simp) (by decide) ?_;simp only[go_sem];refine Q2 (zdr a (by omega)) rfl ?_;simp only[go_sem];refine Q2 (zdr b (by omega)) rfl ?_;have UG:=zam a;have VS:=zam b;have hX:=zaf a;have hY:=zaf b;unfold vN;generalize held a=x at *
 generalize held b=y at *
 have hx:=hX.1;have hy:=hY.1;by_cases XH:y=[]
 .subst XH
  simp only[go_sem];rw[show val []=0 from rfl,Nat.div_zero,Nat.mod_zero,Zg,hX.trimZ];exact zao zcA Yk
 have Fq:0<y.length:=wbc.2 XH;have UI:¬((y.length:Int)=0):=by omega
 have hV:0<val y:=wbG fun h=>XH ((zgX hY).1 h)
 have L4:=Yu hy
 (iterate 3((try simp only[go_sem,UI]);try simp(disch:=omega)only[Q4]))
 refine⟨by omega,?_⟩;refine QJ (fun p:Nat×List Nat×Nat=>stL 68 [(6,aN x),(7,aN y),(8,.one (.vec 24 1 0 x.length)),(9,aN (dig p.2.2)),(10,litI .i64 ((p.1:Int)-1))] [(24,cN (List.replicate p.1 0++p.2.1))])
  (fun p=>ByI x (val y) p.1 p.2.1 p.2.2) (fun p=>p.1) (x.length,[],0) ?_ ⟨by simp,by simp,hV,by simp[val]⟩ ?_
 .refine GStep.trans (zik 9 (nl:=some true) (xs:=[]) (by simp only[go_sem])) ?_
  rw[Zg];refine Q6 rfl ?_ ?_ rfl ?_<;>(iterate 3((try simp only[go_sem,QF,zdP,wak]);try simp(disch:=omega)only[Q4,QC,QD,Q8,QF,zdP,wak]))<;>simp;all_goals rfl
 .rintro⟨k,qs,R⟩ hs
  simp only at hs ⊢;have L1:=hs.1;simp only[go_sem];refine QI (fun YI=>?_) (fun YI=>?_)
  .obtain⟨i,rfl⟩:∃ i,k=i+1:=⟨k-1,by omega⟩
   have e:((i+1:Nat):Int)-1=(i:Int):=by omega
   have e':(i:Int)+1-1=(i:Int):=by omega
   have hi:i<x.length:=by omega
   have Vm:=hx _ (Qf hi);have hR:=hs.2.2.1;have S4:(dig R).length<=y.length:=zaz (by omega);have XU:=zpy (dig R) x[i] (by omega);rw[znJ Vm]at XU;have Y0:=fun q=>hs.nextV (q:=q) hi Vm rfl
   have Y5:QP Zr x i=Zr x[i]:=Q8 hi;have L5:x[i]+BB*R<BB*val y:=by
    have:BB*(R+1)<=BB*val y:=waq _ hR;rw[wae]at this;omega
   generalize x[i]+BB*R=T at *
   have R8:(dig T).length<=y.length+1:=zaz (by
    rw[waJ,Qu];exact wbf L5 (waq _ (by omega)))
   simp only[BB]at Vm;generalize x[i]=xi at *
   (iterate 3((try simp only[go_sem,e',Y5]);try simp(disch:=omega)only[Q4,QC,QD,Q8,e,e',Y5]))
   obtain⟨B9,Ov⟩:∃ B9,B9=999999999:=⟨_,rfl⟩
   have eB9:(B9:Int)=999999999:=by omega
   refine⟨by omega,Q2 XU rfl ?_⟩
   (iterate 3((try simp only[go_sem]);try simp(disch:=omega)only[Q4,QC,QD,Q8,e,e']))
   refine QJ (fun p:Nat×Nat=>stL 68 [(6,aN x),(7,aN y),(8,.one (.vec 24 1 0 x.length)),(9,aN (dig T)),(10,litI .i64 i),(11,litI .u64 p.1),(12,litI .u64 p.2)] [(24,cN (List.replicate (i+1) 0++qs))])
    (fun p=>p.1<=p.2/\p.2<BB/\p.1*val y<=T/\T<(p.2+1)*val y) (fun p=>p.2-p.1) (0,B9) ?_ ⟨Qk _,by simp only[BB];omega,by simp,by rw[Ov];exact L5⟩ ?_
   .refine Q6 rfl ?_ ?_ rfl ?_<;>simp only[go_sem,QF,eB9]<;>simp
   .rintro⟨lo,Y6⟩ ⟨Ow,L6,UJ,V2⟩
    simp only at Ow L6 UJ V2 ⊢;simp only[BB]at L6
    (iterate 3((try simp only[go_sem]);try simp(disch:=omega)only[Q4,QC,QD,Q8]))
    refine QI (fun Y1=>?_) (fun Y1=>?_)
    .obtain⟨m,hm⟩:∃ m,m=(lo+Y6+1)/2:=⟨_,rfl⟩
     have em:Int.tdiv ((lo:Int)+(Y6:Int)+1) 2=(m:Int):=by rw[hm,show(lo:Int)+(Y6:Int)+1=((lo+Y6+1:Nat):Int) by omega];rfl
     have XO:=zly y m (by omega) hy (by simp only[BB];omega);have Jw:(dig (m*val y)).length<=y.length+1:=zaz (by
      rw[waJ,Qu];exact wcA L4 (by simp only[BB];omega))
     have R9:=zhh (dig (m*val y)) (dig T) (by omega) (by omega);rw[Zk,Zk]at R9
     (iterate 3((try simp only[go_sem]);try simp(disch:=omega)only[QC,em]))
     refine Q2 XO rfl ?_
     (iterate 3((try simp only[go_sem]);try simp(disch:=omega)only[Q4,QC,QD,Q8,em]))
     refine Q2 R9 rfl ?_
     (iterate 3((try simp only[go_sem]);try simp(disch:=omega)only[Q4,QC,QD,Q8,em]))
     refine QI (fun hc=>?_) (fun hc=>?_)
     .have Xb:m*val y<=T:=by
       unfold Za at hc;split at hc
       .omega
       .split at hc<;>omega
      (iterate 3((try simp only[go_sem]);try simp(disch:=omega)only[Q4,QC,QD,Q8,em]))
      refine⟨(m,Y6),⟨by omega,by simp only[BB];omega,Xb,V2⟩,(by show Y6-m<Y6-lo;omega),?_⟩;refine Q6 rfl ?_ ?_ rfl ?_<;>(iterate 3((try simp only[go_sem,QF]);try simp(disch:=omega)only[Q4,QC,QD,Q8,QF]))<;>simp
     .have Wo:T<m*val y:=by
       unfold Za at hc;split at hc
       .omega
       .split at hc<;>omega
      obtain⟨p,hp⟩:∃ p,p+1=m:=⟨m-1,by omega⟩
      have ep:(m:Int)-1=(p:Int):=by omega
      (iterate 3((try simp only[go_sem,ep]);try simp(disch:=omega)only[QC]))
      refine⟨(lo,p),⟨by omega,by simp only[BB];omega,UJ,by rw[hp];exact Wo⟩,(by show p-lo<Y6-lo;omega),?_⟩;refine Q6 rfl ?_ ?_ rfl ?_<;>(iterate 3((try simp only[go_sem,QF]);try simp(disch:=omega)only[Q4,QC,QD,Q8,QF,ep]))<;>simp
    .obtain rfl:Y6=lo:=by omega
     have hn:=Y0 _ UJ V2;have XO:=zly y Y6 (by omega) hy (by simp only[BB];omega);have Jw:(dig (Y6*val y)).length<=y.length+1:=zaz (by
      rw[waJ,Qu];exact wcA L4 (by simp only[BB];omega))
     have JM:=zk6 (dig T) (dig (Y6*val y)) (by omega) (by omega);rw[Zk,Zk]at JM;have hw:i<(List.replicate (i+1) 0++qs).length:=by simp;omega
     (iterate 3((try simp only[go_sem]);try simp(disch:=omega)only[QD]))
     refine⟨⟨by omega,by omega⟩,by rw[zaY];omega,?_⟩;refine Q2 XO rfl ?_
     (iterate 3((try simp only[go_sem]);try simp(disch:=omega)only[Q4,QC,QD,Q8]))
     refine Q2 JM rfl ?_
     (iterate 3((try simp only[go_sem]);try simp(disch:=omega)only[Q4]))
     refine⟨(i,Y6::qs,T-Y6*val y),hn,waO i,?_⟩;refine Q6 rfl ?_ ?_ rfl ?_<;>(iterate 3((try simp only[go_sem,QF,zap hw,ze2]);try simp(disch:=omega)only[Q4,QC,QD,Q8,QF,zap hw,ze2]))<;>simp
  .obtain rfl:k=0:=by omega
   have Vf:=hs.done;have Vd:qs.length=x.length:=by omega
   rw[wbS,wbw];simp only[go_sem];refine zcd 24 1 x.length rfl (zfz qs (by omega)) (by simp only[go_sem]<;>rfl) (by rw[<-Vd];exact Yp Z3) ?_ ?_
   .simp only[go_sem]<;>rfl
   .simp only[go_sem]
    rw[Vf.1,Vf.2];exact zao Yk Yk
end Go.Proofs.YtlgjjcmljmjenaaGreat
