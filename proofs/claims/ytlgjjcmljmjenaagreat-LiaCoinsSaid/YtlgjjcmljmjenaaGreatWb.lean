/- At every input the call answers true and leaves its arguments as they were; no conditions. -/
import Derived.Test.YtlgjjcmljmjenaaGreatWa
set_option linter.unusedSimpArgs false
set_option linter.unusedVariables false
set_option maxRecDepth 100000
set_option maxHeartbeats 32000000
namespace Go.Proofs.YtlgjjcmljmjenaaGreat
open Go Go.Abs Go.Proofs.Tryz
section
variable {n C K C' K':Nat} {f g:Fm}
theorem zfd(hf:Fv n C K f)(hg:Fv n C' K' g)(hn:n<=1000000)(hC:max (max C K) (max C' K')<=4000000000):Q7 prog 85 [eF f,eF g] (eF (QN f g)) :=
 zpc f g (N:=n) (L:=max (max C K) (max C' K')) (by omega) (by omega) hf.wf hg.wf (hf.bd hn (by omega) (by omega)) (hg.bd hn (by omega) (by omega))
theorem zeX(hf:Fv n C K f)(hn:n<=1000000)(hC:max C K<=4000000000){c:Int}(hc:lN c<=4000000000):Q7 prog 86 [eF f,eI c] (eF (scF f c)) :=
 zky f c (N:=n) (L:=max C K) (by omega) (by omega) hf.wf (hf.bd hn (by omega) (by omega)) (by omega)
end
theorem zsg:Q7 prog 143 [.one (.seq (some true) [])] (.one (.seq (some true) [])):=by
 refine QH QB call143 func143 rfl ntmps143 results143 (by simp) (by decide) ?_;simp only[go_sem];exact zgz (.one (.seq (some true) []))
def shI(d:Bool)(v:Nat)(lo hi re:List Fm)(i:Nat):List Fm:=re++(lo.take i).flatMap fun l=>hi.map (sh1 d v l)
theorem zol{d:Bool}{v:Nat}{lo hi re:List Fm}:shI d v lo hi re 0=re:=wak _
theorem zom{d:Bool}{v:Nat}{lo hi re:List Fm}{i:Nat}(h:i<lo.length):shI d v lo hi re (i+1)=shI d v lo hi re i++hi.map (sh1 d v lo[i]):=by
 unfold shI;rw[Zl h,List.flatMap_append,waN];simp
theorem zpu{d:Bool}{v:Nat}{lo hi re:List Fm}(i:Nat):(shI d v lo hi re i).length<=re.length+i*hi.length:=by
 have:=zpI d v (lo.take i) hi re;unfold shV at this;unfold shI;rw[this,waB];exact wcD (wag _ (by omega)) _
theorem ztk(d:Bool)(v:Nat)(lo hi re:List Fm){n C K:Nat}(hn:n<=1000000)(hC:max C K<=1000000000)(hv:v<1000000)(hl:re.length+(lo.length+1)*hi.length<=100000000)(UJ:lo.length<100000000)(h1:∀ f∈lo,Fv n C K f)(h2:∀ f∈hi,Fv n C K f) :
  Q7 prog 97 [.agg (sB lo hi re),tI .i64 v,tB d] (.one (eL cF (shV d v lo hi re))):=by
 refine QH QB call97 func97 rfl ntmps97 results97 (by simp) (by decide) ?_;have w1:=zbP 1 (by decide) (by decide);have l1:=zcP;by_cases hr:re=[]
 .subst hr
  simp only[go_sem,eA];refine Q2 zsg rfl ?_;simp only[go_sem];refine QJ (fun i:Nat=>stL 66 [(1,litI .i64 v),(2,QO d),(3,.one (.ptr 3 0)),(7,zae 1000 3 (shI d v lo hi [] i)),(20,.one (.t (eL cF lo))),(21,litI .i64 lo.length),(22,litI .i64 i)]
    (Zb 1000 cF (shI d v lo hi [] i)++[(3,(sB lo hi []).map .t)])) (fun i=>i<=lo.length) (fun i=>lo.length-i) 0 ?_ (Qk _) ?_
  .rw[zol]
   (refine Q6 rfl ?_ ?_ ?_ ?_<;>(try simp only[go_sem,eA])<;>(try simp))
  .intro i Y6
   simp only[go_sem];refine QI (fun Y1=>?_) (fun YI=>?_)
   .have Yz:i<lo.length:=by omega
    have Y5:QP cF lo i=cF lo[i]:=Q8 Yz;have hf:=h1 _ (Qf Yz);have Je:=zom (d:=d) (v:=v) (hi:=hi) (re:=[]) Yz;have Y4:=zpu (d:=d) (v:=v) (lo:=lo) (hi:=hi) (re:=[]) i;have Jf:(i+1)*hi.length<=(lo.length+1)*hi.length:=wag _ (by omega);rw[wa1]at Jf;generalize lo[i]=l at *
    obtain⟨A,hA⟩:∃ A:Nat->List Fm,A=fun j=>shI d v lo hi [] i++(hi.take j).map (sh1 d v l):=⟨_,rfl⟩
    have Kn:A 0=shI d v lo hi [] i:=by rw[hA];show _++(hi.take 0).map _=_;rw[was,waL,wak]
    have GW:A hi.length=shI d v lo hi [] (i+1):=by rw[hA,Je];show _++(hi.take hi.length).map _=_;rw[waa]
    have GX:∀ j,(A j).length<=([]:List Fm).length+i*hi.length+j:=fun j=>by rw[hA];show(_++(hi.take j).map _).length<=_;rw[Qj,Qm,waB];omega
    have GY:∀ j (hj:j<hi.length),A (j+1)=A j++[sh1 d v l hi[j]]:=fun j hj=>by rw[hA];show _++(hi.take (j+1)).map _=(_++(hi.take j).map _)++_;rw[Zl hj,waK,waN];rfl
    rw[<-Kn];clear hA Kn Je Y4;simp only[go_sem,Y5,Y1]
    (repeat(refine Qg (by omega) ?_))
    refine QJ (fun j:Nat=>stL 66 [(1,litI .i64 v),(2,QO d),(3,.one (.ptr 3 0)),(7,zae 1000 3 (A j)),(9,.one (.ptr 9 0)),(20,.one (.t (eL cF lo))),(21,litI .i64 lo.length),(22,litI .i64 i),(27,.one (.t (eL cF hi))),(28,litI .i64 hi.length),(29,litI .i64 j)]
      (Zb 1000 cF (A j)++[(3,(sB lo hi []).map .t),(9,(cF l).map .t)])) (fun j=>j<=hi.length) (fun j=>hi.length-j) 0 ?_ (Qk _) ?_
    ·(refine Q6 rfl ?_ ?_ ?_ ?_<;>(try simp only[go_sem,eA])<;>(try simp))
    .intro j hj
     simp only[go_sem];refine QI (fun Vh=>?_) (fun JW=>?_)
     .have YH:j<hi.length:=by omega
      have YQ:QP cF hi j=cF hi[j]:=Q8 YH;have hg:=h2 _ (Qf YH);have Uf:=GY j YH;have RK:=GX j;have o1:=zdc hf hn (by omega) v;have o3:=zdc hg hn (by omega) v;have lx:=hf.lco v;have ly:=hg.lco v;have o2:=zbN (coM l.1 v) (by omega);have s1:=hf.sc ly;have s2:=hg.sc (c:=-(coM l.1 v)) (D:=C) (by rw[Zw];exact lx);have o4:=zeX hf hn (by omega) (c:=coM hi[j].1 v) (by omega);have o5:=zeX hg hn (by omega) (c:=-(coM l.1 v)) (by rw[Zw];omega);have s3:Fv n (2*C+1) (K+C+1) (QN (scF l (coM hi[j].1 v)) (scF hi[j] (-(coM l.1 v)))):=s1.add s2 (by omega) (by omega);have o6:=zfd s1 s2 hn (by omega);have a1:=zez (-(coM l.1 v)) 1;have a2:=zez (coM hi[j].1 v) 1;have a3:=ZS (-(coM l.1 v)-1) (coM hi[j].1 v-1);have a4:=Zw (coM l.1 v);have o7:=zer (-(coM l.1 v)) 1 (by omega) (by omega);have o8:=zer (coM hi[j].1 v) 1 (by omega) (by omega);have o9:=zdM (-(coM l.1 v)-1) (coM hi[j].1 v-1) (by omega) (by omega);have o10:=zeW ((-(coM l.1 v)-1)*(coM hi[j].1 v-1)) (by omega);have s4:Fv n 0 (2*C+4) (Zd ((-(coM l.1 v)-1)*(coM hi[j].1 v-1))):=Fv.const (by omega);have o11:=zfd s3 s4 hn (by omega);clear s1 s2 s3 s4 a1 a2 a3 a4;have XU:sh1 d v l hi[j]=if d=true then QN (QN (scF l (coM hi[j].1 v)) (scF hi[j] (-(coM l.1 v)))) (Zd ((-(coM l.1 v)-1)*(coM hi[j].1 v-1)))else QN (scF l (coM hi[j].1 v)) (scF hi[j] (-(coM l.1 v))):=rfl
      generalize sh1 d v l hi[j]=sh at *
      generalize coM l.1 v=x at *
      generalize coM hi[j].1 v=y at *
      generalize hi[j]=h at *
      generalize (-x-1)*(y-1)=z at *
      generalize QN (scF l y) (scF h (-x))=c0 at *
      generalize QN c0 (Zd z)=c1 at *
      generalize scF l y=g1 at *
      generalize scF h (-x)=g2 at *
      generalize Zd z=g3 at *
      simp only[go_sem,YQ,Vh]
      (repeat(refine Qg (by omega) ?_))
      ((repeat(refine Q3 0 rfl ?_;simp only[go_sem]));refine Q2 (o1) rfl ?_;simp only[go_sem];(repeat(refine Q3 0 rfl ?_;simp only[go_sem]));refine Q2 (o2) rfl ?_;simp only[go_sem];(repeat(refine Q3 0 rfl ?_;simp only[go_sem]));refine Q2 (o3) rfl ?_;simp only[go_sem];(repeat(refine Q3 0 rfl ?_;simp only[go_sem]));refine Q2 (o4) rfl ?_;simp only[go_sem];(repeat(refine Q3 0 rfl ?_;simp only[go_sem]));refine Q2 (o5) rfl ?_;simp only[go_sem];(repeat(refine Q3 0 rfl ?_;simp only[go_sem]));refine Q2 (o6) rfl ?_;simp only[go_sem];(repeat(refine Q3 0 rfl ?_;simp only[go_sem])));cases d with
      |false =>
       have XU:sh=c0:=XU;rw[XU]at Uf;simp only[go_sem];refine ZF (sz:=3) (bytes:=56) (by simp only[go_sem,QW]<;>decide) Z9 (A j) [c0] (b:=1000) (by simp only[go_sem]<;>rfl) (by simp only[go_sem]<;>rfl) (by simp only[go_sem]<;>rfl) rfl (by simp) (by simp only[Qe,Qi]at *;omega) (by decide) ?_;simp only[go_sem];refine⟨j+1,YH,(by show hi.length-(j+1)<hi.length-j;omega),?_⟩
       (refine Q6 rfl ?_ ?_ ?_ ?_<;>(try simp only[go_sem,Uf,eA,Q4 (n:=(j:Int)+1) (by omega) (by omega)])<;>(try simp))
      |true =>
       have XU:sh=c1:=XU;rw[XU]at Uf;simp only[go_sem];((repeat(refine Q3 0 rfl ?_;simp only[go_sem]));refine Q2 (w1) rfl ?_;simp only[go_sem];(repeat(refine Q3 0 rfl ?_;simp only[go_sem]));refine Q2 (o7) rfl ?_;simp only[go_sem];(repeat(refine Q3 0 rfl ?_;simp only[go_sem]));refine Q2 (w1) rfl ?_;simp only[go_sem];(repeat(refine Q3 0 rfl ?_;simp only[go_sem]));refine Q2 (o8) rfl ?_;simp only[go_sem];(repeat(refine Q3 0 rfl ?_;simp only[go_sem]));refine Q2 (o9) rfl ?_;simp only[go_sem];(repeat(refine Q3 0 rfl ?_;simp only[go_sem]));refine Q2 (o10) rfl ?_;simp only[go_sem];(repeat(refine Q3 0 rfl ?_;simp only[go_sem]));refine Q2 (o11) rfl ?_;simp only[go_sem];(repeat(refine Q3 0 rfl ?_;simp only[go_sem])));refine ZF (sz:=3) (bytes:=56) (by simp only[go_sem,QW]<;>decide) Z9 (A j) [c1] (b:=1000) (by simp only[go_sem]<;>rfl) (by simp only[go_sem]<;>rfl) (by simp only[go_sem]<;>rfl) rfl (by simp) (by simp only[Qe,Qi]at *;omega) (by decide) ?_;simp only[go_sem];refine⟨j+1,YH,(by show hi.length-(j+1)<hi.length-j;omega),?_⟩
       (refine Q6 rfl ?_ ?_ ?_ ?_<;>(try simp only[go_sem,Uf,eA,Q4 (n:=(j:Int)+1) (by omega) (by omega)])<;>(try simp))
     .obtain rfl:j=hi.length:=by omega
      rw[GW];simp only[go_sem];refine⟨i+1,Yz,(by show lo.length-(i+1)<lo.length-i;omega),?_⟩
      (refine Q6 rfl ?_ ?_ ?_ ?_<;>(try simp only[go_sem,eA,Q4 (n:=(i:Int)+1) (by omega) (by omega)])<;>(try simp))
   .obtain rfl:i=lo.length:=by omega
    rw[show shI d v lo hi [] lo.length=shV d v lo hi [] by unfold shI shV;rw[waa]];simp only[go_sem];exact zlP Z9 (by simp only[go_sem])
 .have hb:re.isEmpty=false:=by cases re with
   |nil=>exact(hr rfl).elim
   |cons _ _=>rfl
  have Ko:Go.Abs.C.vec 1000 3 0 re.length=QX 1000 3 re:=by cases re with
   |nil=>exact(hr rfl).elim
   |cons _ _=>rfl
  simp only[go_sem,eA,hb];refine ze7 1000 (.inr rfl) (zi3 re (by omega)) (by first|rfl|(simp only[go_sem]<;>rfl)) (by simp only[go_sem]) (by decide) ?_;simp only[go_sem,Ko];refine QJ (fun i:Nat=>stL 66 [(1,litI .i64 v),(2,QO d),(3,.one (.ptr 3 0)),(7,zae 1000 3 (shI d v lo hi re i)),(20,.one (.t (eL cF lo))),(21,litI .i64 lo.length),(22,litI .i64 i)]
    (Zb 1000 cF (shI d v lo hi re i)++[(3,(sB lo hi re).map .t)])) (fun i=>i<=lo.length) (fun i=>lo.length-i) 0 ?_ (Qk _) ?_
  .rw[zol]
   ((refine Q6 rfl ?_ ?_ ?_ ?_<;>(try simp only[go_sem,eA,hb])<;>(try simp)))<;>first|exact Ko|exact hr
  .intro i Y6
   simp only[go_sem];refine QI (fun Y1=>?_) (fun YI=>?_)
   .have Yz:i<lo.length:=by omega
    have Y5:QP cF lo i=cF lo[i]:=Q8 Yz;have hf:=h1 _ (Qf Yz);have Je:=zom (d:=d) (v:=v) (hi:=hi) (re:=re) Yz;have Y4:=zpu (d:=d) (v:=v) (lo:=lo) (hi:=hi) (re:=re) i;have Jf:(i+1)*hi.length<=(lo.length+1)*hi.length:=wag _ (by omega);rw[wa1]at Jf;generalize lo[i]=l at *
    obtain⟨A,hA⟩:∃ A:Nat->List Fm,A=fun j=>shI d v lo hi re i++(hi.take j).map (sh1 d v l):=⟨_,rfl⟩
    have Kn:A 0=shI d v lo hi re i:=by rw[hA];show _++(hi.take 0).map _=_;rw[was,waL,wak]
    have GW:A hi.length=shI d v lo hi re (i+1):=by rw[hA,Je];show _++(hi.take hi.length).map _=_;rw[waa]
    have GX:∀ j,(A j).length<=re.length+i*hi.length+j:=fun j=>by rw[hA];show(_++(hi.take j).map _).length<=_;rw[Qj,Qm,waB];omega
    have GY:∀ j (hj:j<hi.length),A (j+1)=A j++[sh1 d v l hi[j]]:=fun j hj=>by rw[hA];show _++(hi.take (j+1)).map _=(_++(hi.take j).map _)++_;rw[Zl hj,waK,waN];rfl
    rw[<-Kn];clear hA Kn Je Y4;simp only[go_sem,Y5,Y1]
    (repeat(refine Qg (by omega) ?_))
    refine QJ (fun j:Nat=>stL 66 [(1,litI .i64 v),(2,QO d),(3,.one (.ptr 3 0)),(7,zae 1000 3 (A j)),(9,.one (.ptr 9 0)),(20,.one (.t (eL cF lo))),(21,litI .i64 lo.length),(22,litI .i64 i),(27,.one (.t (eL cF hi))),(28,litI .i64 hi.length),(29,litI .i64 j)]
      (Zb 1000 cF (A j)++[(3,(sB lo hi re).map .t),(9,(cF l).map .t)])) (fun j=>j<=hi.length) (fun j=>hi.length-j) 0 ?_ (Qk _) ?_
    ·(refine Q6 rfl ?_ ?_ ?_ ?_<;>(try simp only[go_sem,eA,hb])<;>(try simp))
    .intro j hj
     simp only[go_sem];refine QI (fun Vh=>?_) (fun JW=>?_)
     .have YH:j<hi.length:=by omega
      have YQ:QP cF hi j=cF hi[j]:=Q8 YH;have hg:=h2 _ (Qf YH);have Uf:=GY j YH;have RK:=GX j;have o1:=zdc hf hn (by omega) v;have o3:=zdc hg hn (by omega) v;have lx:=hf.lco v;have ly:=hg.lco v;have o2:=zbN (coM l.1 v) (by omega);have s1:=hf.sc ly;have s2:=hg.sc (c:=-(coM l.1 v)) (D:=C) (by rw[Zw];exact lx);have o4:=zeX hf hn (by omega) (c:=coM hi[j].1 v) (by omega);have o5:=zeX hg hn (by omega) (c:=-(coM l.1 v)) (by rw[Zw];omega);have s3:Fv n (2*C+1) (K+C+1) (QN (scF l (coM hi[j].1 v)) (scF hi[j] (-(coM l.1 v)))):=s1.add s2 (by omega) (by omega);have o6:=zfd s1 s2 hn (by omega);have a1:=zez (-(coM l.1 v)) 1;have a2:=zez (coM hi[j].1 v) 1;have a3:=ZS (-(coM l.1 v)-1) (coM hi[j].1 v-1);have a4:=Zw (coM l.1 v);have o7:=zer (-(coM l.1 v)) 1 (by omega) (by omega);have o8:=zer (coM hi[j].1 v) 1 (by omega) (by omega);have o9:=zdM (-(coM l.1 v)-1) (coM hi[j].1 v-1) (by omega) (by omega);have o10:=zeW ((-(coM l.1 v)-1)*(coM hi[j].1 v-1)) (by omega);have s4:Fv n 0 (2*C+4) (Zd ((-(coM l.1 v)-1)*(coM hi[j].1 v-1))):=Fv.const (by omega);have o11:=zfd s3 s4 hn (by omega);clear s1 s2 s3 s4 a1 a2 a3 a4;have XU:sh1 d v l hi[j]=if d=true then QN (QN (scF l (coM hi[j].1 v)) (scF hi[j] (-(coM l.1 v)))) (Zd ((-(coM l.1 v)-1)*(coM hi[j].1 v-1)))else QN (scF l (coM hi[j].1 v)) (scF hi[j] (-(coM l.1 v))):=rfl
      generalize sh1 d v l hi[j]=sh at *
      generalize coM l.1 v=x at *
      generalize coM hi[j].1 v=y at *
      generalize hi[j]=h at *
      generalize (-x-1)*(y-1)=z at *
      generalize QN (scF l y) (scF h (-x))=c0 at *
      generalize QN c0 (Zd z)=c1 at *
      generalize scF l y=g1 at *
      generalize scF h (-x)=g2 at *
      generalize Zd z=g3 at *
      simp only[go_sem,YQ,Vh]
      (repeat(refine Qg (by omega) ?_))
      ((repeat(refine Q3 0 rfl ?_;simp only[go_sem]));refine Q2 (o1) rfl ?_;simp only[go_sem];(repeat(refine Q3 0 rfl ?_;simp only[go_sem]));refine Q2 (o2) rfl ?_;simp only[go_sem];(repeat(refine Q3 0 rfl ?_;simp only[go_sem]));refine Q2 (o3) rfl ?_;simp only[go_sem];(repeat(refine Q3 0 rfl ?_;simp only[go_sem]));refine Q2 (o4) rfl ?_;simp only[go_sem];(repeat(refine Q3 0 rfl ?_;simp only[go_sem]));refine Q2 (o5) rfl ?_;simp only[go_sem];(repeat(refine Q3 0 rfl ?_;simp only[go_sem]));refine Q2 (o6) rfl ?_;simp only[go_sem];(repeat(refine Q3 0 rfl ?_;simp only[go_sem])));cases d with
      |false =>
       have XU:sh=c0:=XU;rw[XU]at Uf;simp only[go_sem];refine ZF (sz:=3) (bytes:=56) (by simp only[go_sem,QW]<;>decide) Z9 (A j) [c0] (b:=1000) (by simp only[go_sem]<;>rfl) (by simp only[go_sem]<;>rfl) (by simp only[go_sem]<;>rfl) rfl (by simp) (by simp only[Qe,Qi]at *;omega) (by decide) ?_;simp only[go_sem];refine⟨j+1,YH,(by show hi.length-(j+1)<hi.length-j;omega),?_⟩
       (refine Q6 rfl ?_ ?_ ?_ ?_<;>(try simp only[go_sem,Uf,eA,hb,Q4 (n:=(j:Int)+1) (by omega) (by omega)])<;>(try simp))
      |true =>
       have XU:sh=c1:=XU;rw[XU]at Uf;simp only[go_sem];((repeat(refine Q3 0 rfl ?_;simp only[go_sem]));refine Q2 (w1) rfl ?_;simp only[go_sem];(repeat(refine Q3 0 rfl ?_;simp only[go_sem]));refine Q2 (o7) rfl ?_;simp only[go_sem];(repeat(refine Q3 0 rfl ?_;simp only[go_sem]));refine Q2 (w1) rfl ?_;simp only[go_sem];(repeat(refine Q3 0 rfl ?_;simp only[go_sem]));refine Q2 (o8) rfl ?_;simp only[go_sem];(repeat(refine Q3 0 rfl ?_;simp only[go_sem]));refine Q2 (o9) rfl ?_;simp only[go_sem];(repeat(refine Q3 0 rfl ?_;simp only[go_sem]));refine Q2 (o10) rfl ?_;simp only[go_sem];(repeat(refine Q3 0 rfl ?_;simp only[go_sem]));refine Q2 (o11) rfl ?_;simp only[go_sem];(repeat(refine Q3 0 rfl ?_;simp only[go_sem])));refine ZF (sz:=3) (bytes:=56) (by simp only[go_sem,QW]<;>decide) Z9 (A j) [c1] (b:=1000) (by simp only[go_sem]<;>rfl) (by simp only[go_sem]<;>rfl) (by simp only[go_sem]<;>rfl) rfl (by simp) (by simp only[Qe,Qi]at *;omega) (by decide) ?_;simp only[go_sem];refine⟨j+1,YH,(by show hi.length-(j+1)<hi.length-j;omega),?_⟩
       (refine Q6 rfl ?_ ?_ ?_ ?_<;>(try simp only[go_sem,Uf,eA,hb,Q4 (n:=(j:Int)+1) (by omega) (by omega)])<;>(try simp))
     .obtain rfl:j=hi.length:=by omega
      rw[GW];simp only[go_sem];refine⟨i+1,Yz,(by show lo.length-(i+1)<lo.length-i;omega),?_⟩
      (refine Q6 rfl ?_ ?_ ?_ ?_<;>(try simp only[go_sem,eA,hb,Q4 (n:=(i:Int)+1) (by omega) (by omega)])<;>(try simp))
   .obtain rfl:i=lo.length:=by omega
    rw[show shI d v lo hi re lo.length=shV d v lo hi re by unfold shI shV;rw[waa]];simp only[go_sem];exact zlP Z9 (by simp only[go_sem])
abbrev xV(n:Nat)(p:Nat->Int):QE:=upd noH PIN (some (Q5 cJ (fnG n p)))
section
variable {n:Nat} {p q:Nat->Int}
theorem zjI(b:Nat)(h:b<PIN):xV n p b=none:=by
 show(if b=PIN then _ else none)=none;rw[Qb (by omega)]
theorem zqM(b:Nat):xV n p b=none↔xV n q b=none:=by
 show(if b=PIN then some _ else none)=none↔(if b=PIN then some _ else none)=none;split<;>simp
theorem zjX(b:Nat)(cs:List Go.Abs.C)(h:xV n p b=some cs):∀ c∈cs,inC (xV n p) c:=by
 have h:(if b=PIN then some (Q5 cJ (fnG n p))else none)=some cs:=h;split at h
 .cases h
  intro c hc;unfold Q5 at hc;obtain⟨t,_,rfl⟩:=Qp.1 hc;trivial
 .cases h
theorem xV_p{k:Nat}:inA (xV n p) (.one (.vec PIN 2 0 k)):=by
 show(if PIN=PIN then some _ else none)≠none;simp
theorem zzc{F:FuncId}{ys args:List AV}{H:QE}{r:AV}(d:Nat)(h:Ze prog F args (xV n p) r (xV n p))(Xc:ys=args.map (thA (fun _=>d)))
  (YD:∀ x∈args,inA (xV n p) x) (hH:H d=some (Q5 cJ (fnG n p))):RdC prog F ys H (thA (fun _=>d) r):=by
 subst Xc;have hx:∀ {b:Nat},xV n p b≠none->b=PIN:=fun {b} h=>by
  by_cases e:b=PIN
  .exact e
  .exact(h (show(if b=PIN then some (Q5 cJ (fnG n p))else none)=none from Qb e)).elim
 have hs:∀ {b:Nat} {cs:List Go.Abs.C},xV n p b=some cs->cs=Q5 cJ (fnG n p):=fun {b cs} h=>by
  have h:(if b=PIN then some (Q5 cJ (fnG n p))else none)=some cs:=h;split at h
  .cases h;rfl
  .cases h
 refine zeE (fun _=>d) h zjI (fun b b' h h' _=>(hx h).trans (hx h').symm) zjX YD fun b cs hb=>?_
 rw[hs hb];have e:(Q5 cJ (fnG n p)).map (thC fun _=>d)=Q5 cJ (fnG n p):=by unfold Q5;rw[wah];rfl
 obtain rfl:=hx (b:=b) (by rw[hb];simp);rw[e];exact hH
theorem zwW{m:Nat}{F:FuncId}{ys args:List AV}{σ:St}{K:AV->St->Prop}{r:AV}(d:Nat)(hm:m=1\/m=2)(h:Ze prog F args (xV n p) r (xV n q))(Xc:ys=args.map (thA (fun _=>d)))
  (YD:∀ x∈args,inA (xV n p) x) (hH:σ.H d=some (Q5 cJ (fnG n p))) (hK:K (thA (fun _=>d) r) (σ.withH (upd σ.H d (some (Q5 cJ (fnG n q)))))):ZM prog m F ys σ K:=by
 have hx:∀ {p:Nat->Int} {b:Nat},xV n p b≠none->b=PIN:=fun {p b} h=>by
  by_cases e:b=PIN
  .exact e
  .exact(h (show(if b=PIN then some (Q5 cJ (fnG n p))else none)=none from Qb e)).elim
 have hs:∀ {p:Nat->Int} {b:Nat} {cs:List Go.Abs.C},xV n p b=some cs->cs=Q5 cJ (fnG n p)/\b=PIN:=fun {p b cs} h=>by
  refine⟨?_,hx (by rw[h];simp)⟩;have h:(if b=PIN then some (Q5 cJ (fnG n p))else none)=some cs:=h;split at h
  .cases h;rfl
  .cases h
 have e:∀ p:Nat->Int,(Q5 cJ (fnG n p)).map (thC fun _=>d)=Q5 cJ (fnG n p):=fun p=>by unfold Q5;rw[wah];rfl
 refine zjb (fun _=>d) hm h Xc zjI (fun b=>zqM b) (fun b b' h h' _=>(hx h).trans (hx h').symm) zjX YD (fun b cs hb=>?_) (fun b cs hb=>?_) (fun b hb=>?_) hK
 .obtain⟨rfl,rfl⟩:=hs hb
  rw[e];exact hH
 .obtain⟨rfl,rfl⟩:=hs hb
  rw[e];show(if d=d then _ else _)=_;rw[Qc rfl]
 .have:b≠d:=fun e2=>hb PIN (by show(if PIN=PIN then some _ else none)≠none;simp) e2.symm
  show(if b=d then _ else _)=_;rw[Qb this]
end
theorem zyl(f:Fm)(p:Nat->Int){n C K B:Nat}(hn:n<=1000000)(hC:max C K<=4000000000)(hB:B<=80000000000)(hf:Fv n C K f)(Wf:∀ v,v<n->lN (p v)<=B) :
  Ze prog 88 [.agg ((cF f).map .t),.one (.vec PIN 2 0 n)] (xV n p) (.agg ((cJ (atF f p)).map .t)) (xV n p):=by
 refine zaq QB call88 func88 rfl ntmps88 results88 (by simp) (by decide) ?_ ?_ ?_ ?_ ?_
 .exact zjI
 .exact fun b=>wbq
 .exact zjX
 .intro c hc
  obtain⟨t,_,rfl⟩:=Qp.1 hc;trivial
 .have YK:=hf.bd (L:=max C K) hn (wbT _ _) (wbO _ _)
  have h1:=zuP f hf.wf (YK.mono (by omega) (by omega));have Y4:=YK.1;have h2:=zhv (decide (f.2<0)) (dig f.2.natAbs) (by have:=YK.2.2;unfold lN at this;omega);rw[Zn]at h2;obtain⟨p',Wm⟩:∃ p':Nat->Int,p'=fun v=>if v<n then p v else 0:=⟨_,rfl⟩
  have Lp:∀ v,v<n->p' v=p v:=fun v hv=>by rw[Wm];exact Qc hv
  have RE:∀ v,lN (p' v)<=B:=fun v=>by
   rw[Wm];show lN (if v<n then p v else 0)<=B;split
   .exact Wf v ‹_›
   .rw[ZG];omega
  have KM:=fun i=>zh4 YK RE i
  rw[<-zgu (f:=f) (p:=p') (q:=p) fun m hm=>Lp _ (hf.lt m hm)];unfold atF;simp only[go_sem,PIN];refine Q2 h1 rfl ?_;simp only[go_sem,PIN];refine Q2 h2 rfl ?_;simp only[go_sem,PIN];refine QJ (fun i:Nat=>stL 38 [(1,.one (.vec 1000000 2 0 n)),(4,.one (.ptr 4 0)),(5,.one (.ptr 5 0)),(15,.one (.t (eL cMn f.1))),(16,litI .i64 f.1.length),(17,litI .i64 i)]
    [(1000000,Q5 cJ (fnG n p)),(4,[.t (.lit (.bool false)),.t (.seq (some true) [])]),(5,[.t (.lit (.bool (decide (f.2+atM (f.1.take i) p'<0)))),.t (eN (dig (f.2+atM (f.1.take i) p').natAbs))])])
   (fun i=>i<=f.1.length) (fun i=>f.1.length-i) 0 ?_ (Qk _) ?_
  .rw[was,show f.2+atM [] p'=f.2 from wa7 _]
   (refine Q6 rfl ?_ ?_ ?_ ?_<;>(try simp only[go_sem,QF,PIN])<;>(try simp))
  .intro i hi
   simp only[go_sem];refine QI (fun Y1=>?_) (fun YI=>?_)
   .have Yz:i<f.1.length:=by omega
    have Y5:QP cMn f.1 i=cMn f.1[i]:=Q8 Yz;have hm:=YK.2.1 _ (Qf Yz);have Jw:=hf.lt _ (Qf Yz);have WQ:=KM i;have Y0:f.2+atM (f.1.take (i+1)) p'=f.2+atM (f.1.take i) p'+f.1[i].2*p' f.1[i].1:=by rw[Zl Yz,zll,wdU]
    generalize f.1[i]=m at *
    generalize f.2+atM (f.1.take i) p'=acc at *
    simp only[go_sem,Y5,Y1];refine⟨by omega,?_⟩;have c':((m.1:Int)<(n:Int))=True:=Qh (by omega);have Wq:(Q5 cJ (fnG n p)).drop (m.1*2)=(cJ (p m.1)).map .t++Q5 cJ ((fnG n p).drop (m.1+1)):=Z4 Yj Jw;have DS:=Lp _ Jw;have hq:=Wf _ Jw;rw[DS]at Y0;have e1:=zdM m.2 (p m.1) (by omega) (by omega);have l1:=ZS m.2 (p m.1);have e2:=zdf acc (m.2*p m.1) (by omega) (by omega);generalize p m.1=q at *
    simp only[go_sem,c'];refine Q3 0 rfl ?_;simp only[go_sem,Wq,c',cJ];refine⟨by omega,?_⟩;refine Q2 e1 rfl ?_;simp only[go_sem];refine Q2 e2 rfl ?_;simp only[go_sem];refine⟨i+1,Yz,(by show f.1.length-(i+1)<f.1.length-i;omega),?_⟩
    (refine Q6 rfl ?_ ?_ ?_ ?_<;>(try simp only[go_sem,Y0,QF,Q4 (n:=(i:Int)+1) (by omega) (by omega)])<;>(try simp))
   .obtain rfl:i=f.1.length:=by omega
    rw[waa];simp only[go_sem];refine⟨.inr rfl,(fun x hx=>by obtain rfl:=Qr.1 hx;simp only[go_sem]),rfl,fun b hb=>?_⟩;have hb:1000000<=b:=hb;show(if b=4 then some _ else if b=1000000 then some _ else if b=4 then some _ else if b=5 then some _ else none)=if b=1000000 then some _ else none
    rw[Qb (by omega)];by_cases e:b=1000000
    .rw[Qc e,Qc e]
    .rw[Qb e,Qb (by omega),Qb (by omega),Qb e]
theorem zl5(f:Fm)(p:Nat->Int)(d:Nat){n C K B:Nat}(hn:n<=1000000)(hC:max C K<=4000000000)(hB:B<=80000000000)(hf:Fv n C K f)(Wf:∀ v,v<n->lN (p v)<=B){H:QE}(hH:H d=some (Q5 cJ (fnG n p))) :
  RdC prog 88 [.agg ((cF f).map .t),.one (.vec d 2 0 n)] H (.agg ((cJ (atF f p)).map .t)) :=
 zzc d (zyl f p hn hC hB hf Wf) rfl (Qs.2 ⟨(fun c hc=>by obtain⟨t,_,rfl⟩:=Qp.1 hc;trivial),Qs.2 ⟨xV_p,fun x hx=>by cases hx⟩⟩) hH
theorem WeakL.refl:∀ l:List Go.Abs.C,WeakL l l
 |[]=>.nil
 |_::l=>.cons .refl (WeakL.refl l)
theorem WeakL.app{a b b':List Go.Abs.C}(h:WeakL b b'):WeakL (a++b) (a++b'):=by
 induction a with
 |nil=>exact h
 |cons x a ih=>exact .cons .refl ih
theorem cJ_0:(cJ 0).map Go.Abs.C.t=[.t (.lit (.bool false)),.t (eN [])]:=by
 show[Abs.C.t _,Abs.C.t (eN (dig (0:Int).natAbs))]=_;rw[show(0:Int).natAbs=0 from rfl,Zg];rfl
theorem zov:WeakL [.t (.lit (.bool false)),.t (.seq (some true) [])] ((cJ 0).map Go.Abs.C.t):=by
 rw[cJ_0];exact .cons .refl (.cons .seq .nil)
theorem ztr{n v:Nat}{p:Nat->Int}(hv:v<n):WeakL ((Q5 cJ (fnG n p)).take (v*2)++Abs.C.t (.lit (.bool false))::Abs.C.t (.seq (some true) [])::(Q5 cJ (fnG n p)).drop (v*2+2)) (Q5 cJ (fnG n (Zt p v 0))):=by
 have h:=zbF hv (g:=p) (q:=0);have e:(fun i=>if i=v then 0 else p i)=Zt p v 0:=rfl;rw[e]at h;rw[<-h,show(0:Int).natAbs=0 from rfl,Zg];exact WeakL.app (.cons .refl (.cons .seq (WeakL.refl _)))
def okB(fr to:Option Int):Bool:=match fr,to with
 |some f,some t=>decide (f<=t)
 |_,_=>true
theorem zpC{fr to:Option Int}:okB fr to=true↔okV fr to:=by
 unfold okB okV;cases fr with
 |none=>simp
 |some f=>cases to with
  |none=>simp
  |some t=>simp
theorem zts(p:Nat->Int)(v:Nat)(s t:Int):Zt (Zt p v s) v t=Zt p v t:=by
 funext i;unfold Zt;split<;>rfl
theorem zuT(v:Nat)(lo hi re:List Fm)(p:Nat->Int){n C K B:Nat}(hn:n<=1000000)(hC:max C K<=4000000000)(hB:B<=4000000000)(hv:v<n)(UJ:lo.length<100000000)(V2:hi.length<100000000)(h1:∀ f∈lo,Fv n C K f)(h2:∀ f∈hi,Fv n C K f)(hp:∀ v,v<n->lN (p v)<=B) :
  Ze prog 98 [.agg ((sB lo hi re).map .t),litI .i64 v,.one (.vec PIN 2 0 n)] (xV n p) (QO (okB (frL v p lo) (toL v p hi))) (xV n (Zt p v (zh9 (frL v p lo) (toL v p hi)))):=by
 refine zaq QB call98 func98 rfl ntmps98 results98 (by simp) (by decide) ?_ ?_ ?_ ?_ ?_
 .exact zjI
 .exact fun b=>zqM b
 .exact zjX
 .trivial
 .obtain⟨X0,Wj⟩:∃ X0,X0=Zt p v 0:=⟨_,rfl⟩
  have RO:∀ u,u<n->lN (X0 u)<=B:=fun u hu=>by
   rw[Wj];show lN (if u=v then 0 else p u)<=B;split
   .rw[ZG];omega
   .exact hp u hu
  have XN:((0:Int)<=(v:Int))=True:=Qh (by omega);have XD:((v:Int)<(n:Int))=True:=Qh (by omega);have Xo:=zaD (n:=n) (g:=p);have Vj:∀ f,Fv n C K f->lN (atF f X0)<=max C K+B+n:=fun f hf=>by
   have YK:=hf.bd (L:=max C K) hn (wbT _ _) (wbO _ _);have h:=zh4 YK (p:=fun u=>if u<n then X0 u else 0) (K:=B) (fun u=>by
    show lN (if u<n then X0 u else 0)<=B;split
    .exact RO u ‹_›
    .rw[ZG];omega) f.1.length
   rw[waa]at h;have e:atF f (fun u=>if u<n then X0 u else 0)=atF f X0:=zgu fun m hm=>Qc (hf.lt m hm)
   have h3:=YK.1;rw[<-e];show lN (f.2+atM f.1 _)<=_;omega
  simp only[go_sem,PIN,XN,XD,Xo]
  (repeat(refine Qg (by omega) ?_))
  have Xz:∀ l:List Fm,(∀ f∈l,Fv n C K f)->∀ f∈l,lN (frA v p f)<=max C K+B+n+1:=fun l hl f hf=>by
   have h3:=zas (-(atF f X0)) (-(coM f.1 v));have h4:=Vj f (hl f hf);rw[Zw]at h3;unfold frA;rw[Zw,<-Wj];omega
  have UE:∀ l:List Fm,(∀ f∈l,Fv n C K f)->∀ f∈l,lN (toA v p f)<=max C K+B+n+1:=fun l hl f hf=>by
   have h3:=zas (-(atF f X0)) (coM f.1 v);have h4:=Vj f (hl f hf);rw[Zw]at h3;unfold toA;rw[<-Wj];omega
  have Up:∀ i,lN ((frL v p (lo.take i)).getD 0)<=max C K+B+n+1:=fun i=>by
   have:=zen v p (lo.take i);cases h:frL v p (lo.take i)with
   |none=>show lN 0<=_;rw[ZG];omega
   |some m =>
    rw[h]at this;obtain⟨⟨a,ha,e⟩,_⟩:=this;show lN m<=_;rw[e];exact Xz lo h1 a (waU ha)
  have Uq:∀ i,lN ((toL v p (hi.take i)).getD 0)<=max C K+B+n+1:=fun i=>by
   have:=zeo v p (hi.take i);cases h:toL v p (hi.take i)with
   |none=>show lN 0<=_;rw[ZG];omega
   |some m =>
    rw[h]at this;obtain⟨⟨a,ha,e⟩,_⟩:=this;show lN m<=_;rw[e];exact UE hi h2 a (waU ha)
  have Xz:∀ l:List Fm,(∀ f∈l,Fv n C K f)->∀ f∈l,lN (frA v p f)<=max C K+B+n+1:=fun l hl f hf=>by
   have h3:=zas (-(atF f X0)) (-(coM f.1 v));have h4:=Vj f (hl f hf);rw[Zw]at h3;unfold frA;rw[Zw,<-Wj];omega
  have UE:∀ l:List Fm,(∀ f∈l,Fv n C K f)->∀ f∈l,lN (toA v p f)<=max C K+B+n+1:=fun l hl f hf=>by
   have h3:=zas (-(atF f X0)) (coM f.1 v);have h4:=Vj f (hl f hf);rw[Zw]at h3;unfold toA;rw[<-Wj];omega
  have Up:∀ i,lN ((frL v p (lo.take i)).getD 0)<=max C K+B+n+1:=fun i=>by
   have:=zen v p (lo.take i);cases h:frL v p (lo.take i)with
   |none=>show lN 0<=_;rw[ZG];omega
   |some m =>
    rw[h]at this;obtain⟨⟨a,ha,e⟩,_⟩:=this;show lN m<=_;rw[e];exact Xz lo h1 a (waU ha)
  have Uq:∀ i,lN ((toL v p (hi.take i)).getD 0)<=max C K+B+n+1:=fun i=>by
   have:=zeo v p (hi.take i);cases h:toL v p (hi.take i)with
   |none=>show lN 0<=_;rw[ZG];omega
   |some m =>
    rw[h]at this;obtain⟨⟨a,ha,e⟩,_⟩:=this;show lN m<=_;rw[e];exact UE hi h2 a (waU ha)
  have Xz:∀ l:List Fm,(∀ f∈l,Fv n C K f)->∀ f∈l,lN (frA v p f)<=max C K+B+n+1:=fun l hl f hf=>by
   have h3:=zas (-(atF f X0)) (-(coM f.1 v));have h4:=Vj f (hl f hf);rw[Zw]at h3;unfold frA;rw[Zw,<-Wj];omega
  have UE:∀ l:List Fm,(∀ f∈l,Fv n C K f)->∀ f∈l,lN (toA v p f)<=max C K+B+n+1:=fun l hl f hf=>by
   have h3:=zas (-(atF f X0)) (coM f.1 v);have h4:=Vj f (hl f hf);rw[Zw]at h3;unfold toA;rw[<-Wj];omega
  have Up:∀ i,lN ((frL v p (lo.take i)).getD 0)<=max C K+B+n+1:=fun i=>by
   have:=zen v p (lo.take i);cases h:frL v p (lo.take i)with
   |none=>show lN 0<=_;rw[ZG];omega
   |some m =>
    rw[h]at this;obtain⟨⟨a,ha,e⟩,_⟩:=this;show lN m<=_;rw[e];exact Xz lo h1 a (waU ha)
  have Uq:∀ i,lN ((toL v p (hi.take i)).getD 0)<=max C K+B+n+1:=fun i=>by
   have:=zeo v p (hi.take i);cases h:toL v p (hi.take i)with
   |none=>show lN 0<=_;rw[ZG];omega
   |some m =>
    rw[h]at this;obtain⟨⟨a,ha,e⟩,_⟩:=this;show lN m<=_;rw[e];exact UE hi h2 a (waU ha)
  have Xz:∀ l:List Fm,(∀ f∈l,Fv n C K f)->∀ f∈l,lN (frA v p f)<=max C K+B+n+1:=fun l hl f hf=>by
   have h3:=zas (-(atF f X0)) (-(coM f.1 v));have h4:=Vj f (hl f hf);rw[Zw]at h3;unfold frA;rw[Zw,<-Wj];omega
  have UE:∀ l:List Fm,(∀ f∈l,Fv n C K f)->∀ f∈l,lN (toA v p f)<=max C K+B+n+1:=fun l hl f hf=>by
   have h3:=zas (-(atF f X0)) (coM f.1 v);have h4:=Vj f (hl f hf);rw[Zw]at h3;unfold toA;rw[<-Wj];omega
  have Up:∀ i,lN ((frL v p (lo.take i)).getD 0)<=max C K+B+n+1:=fun i=>by
   have:=zen v p (lo.take i);cases h:frL v p (lo.take i)with
   |none=>show lN 0<=_;rw[ZG];omega
   |some m =>
    rw[h]at this;obtain⟨⟨a,ha,e⟩,_⟩:=this;show lN m<=_;rw[e];exact Xz lo h1 a (waU ha)
  have Uq:∀ i,lN ((toL v p (hi.take i)).getD 0)<=max C K+B+n+1:=fun i=>by
   have:=zeo v p (hi.take i);cases h:toL v p (hi.take i)with
   |none=>show lN 0<=_;rw[ZG];omega
   |some m =>
    rw[h]at this;obtain⟨⟨a,ha,e⟩,_⟩:=this;show lN m<=_;rw[e];exact UE hi h2 a (waU ha)
  have Xz:∀ l:List Fm,(∀ f∈l,Fv n C K f)->∀ f∈l,lN (frA v p f)<=max C K+B+n+1:=fun l hl f hf=>by
   have h3:=zas (-(atF f X0)) (-(coM f.1 v));have h4:=Vj f (hl f hf);rw[Zw]at h3;unfold frA;rw[Zw,<-Wj];omega
  have UE:∀ l:List Fm,(∀ f∈l,Fv n C K f)->∀ f∈l,lN (toA v p f)<=max C K+B+n+1:=fun l hl f hf=>by
   have h3:=zas (-(atF f X0)) (coM f.1 v);have h4:=Vj f (hl f hf);rw[Zw]at h3;unfold toA;rw[<-Wj];omega
  have Up:∀ i,lN ((frL v p (lo.take i)).getD 0)<=max C K+B+n+1:=fun i=>by
   have:=zen v p (lo.take i);cases h:frL v p (lo.take i)with
   |none=>show lN 0<=_;rw[ZG];omega
   |some m =>
    rw[h]at this;obtain⟨⟨a,ha,e⟩,_⟩:=this;show lN m<=_;rw[e];exact Xz lo h1 a (waU ha)
  have Uq:∀ i,lN ((toL v p (hi.take i)).getD 0)<=max C K+B+n+1:=fun i=>by
   have:=zeo v p (hi.take i);cases h:toL v p (hi.take i)with
   |none=>show lN 0<=_;rw[ZG];omega
   |some m =>
    rw[h]at this;obtain⟨⟨a,ha,e⟩,_⟩:=this;show lN m<=_;rw[e];exact UE hi h2 a (waU ha)
  refine QJ (fun i:Nat=>stL 107 [(1,litI .i64 v),(2,.one (.vec 1000000 2 0 n)),(3,.one (.ptr 3 0)),(7,QO (frL v p (lo.take i)).isSome),(8,QO false),(9,.one (.ptr 9 0)),(10,.one (.ptr 10 0)),(25,.one (.t (eL cF lo))),(26,litI .i64 lo.length),(27,litI .i64 i)]
    [(1000000,Q5 cJ (fnG n X0)),(3,(sB lo hi re).map .t),(9,(cJ ((frL v p (lo.take i)).getD 0)).map .t),(10,(cJ 0).map .t)]) (fun i=>i<=lo.length) (fun i=>lo.length-i) 0 ?_ (Qk _) ?_
  .refine GStep.trans (zaA 1000000 (by simp only[go_sem,PIN]<;>rfl) (ztr hv)) ?_
   refine GStep.trans (zaA 9 (by simp only[go_sem,PIN]<;>rfl) zov) ?_;refine GStep.trans (zaA 10 (by simp only[go_sem,PIN]<;>rfl) zov) ?_;rw[was,<-Wj,show frL v p []=none from rfl]
   (refine Q6 rfl ?_ ?_ ?_ ?_<;>(try simp only[go_sem,QF,PIN,eA])<;>(try simp))
  .intro i Y6
   simp only[go_sem];refine QI (fun Y1=>?_) (fun YI=>?_)
   .have Yz:i<lo.length:=by omega
    have Y5:QP cF lo i=cF lo[i]:=Q8 Yz;have hf:=h1 _ (Qf Yz);have hA:=Vj _ hf;have o1:=fun {H:QE}=>zl5 lo[i] X0 1000000 hn hC (by omega) hf RO (H:=H)
    have o2:=zbN (atF lo[i] X0) (by omega);have o3:=zdc hf hn (by omega) v;have lx:=hf.lco v;have o4:=zbN (coM lo[i].1 v) (by omega);have n1:=Zw (atF lo[i] X0);have n2:=Zw (coM lo[i].1 v);have o5:=zej (-(atF lo[i] X0)) (-(coM lo[i].1 v)) (by omega) (by omega);have n3:=zas (-(atF lo[i] X0)) (-(coM lo[i].1 v));have o6:=zbN (Int.fdiv (-(atF lo[i] X0)) (-(coM lo[i].1 v))) (by omega);have efr : -(Int.fdiv (-(atF lo[i] X0)) (-(coM lo[i].1 v)))=frA v p lo[i]:=by unfold frA;rw[Wj]
    have lfr:=Xz lo h1 _ (Qf Yz);have Gv:=Up i;have Y0:frL v p (lo.take (i+1))=frS v p (frL v p (lo.take i)) lo[i]:=by rw[Zl Yz,zva]
    rw[efr]at o6;obtain⟨fo2,Rg⟩:∃ fo2,fo2=frL v p (lo.take (i+1)):=⟨_,rfl⟩
    rw[<-Rg]at Y0;generalize frL v p (lo.take i)=fo at *
    unfold frS at Y0;generalize frA v p lo[i]=y at *
    generalize Int.fmod (-(atF lo[i] X0)) (-(coM lo[i].1 v))=fm at *
    generalize Int.fdiv (-(atF lo[i] X0)) (-(coM lo[i].1 v))=q at *
    generalize -(coM lo[i].1 v)=nc at *
    generalize coM lo[i].1 v=c at *
    generalize -(atF lo[i] X0)=nA at *
    generalize atF lo[i] X0=A at *
    generalize lo[i]=l at *
    clear hA Xz UE Up Uq Vj efr;simp only[go_sem,Y5,Y1]
    (repeat(refine Qg (by omega) ?_))
    refine Q3 3 rfl ?_;simp only[go_sem];refine zht (o1 (by simp only[go_sem]<;>rfl)) ?_;simp only[go_sem];refine Q2 o2 rfl ?_;simp only[go_sem];refine Q2 o3 rfl ?_;simp only[go_sem];refine Q2 o4 rfl ?_;simp only[go_sem];refine Q2 o5 rfl ?_;simp only[go_sem];refine Q2 o6 rfl ?_;cases fo with
    |none =>
     have Y0:fo2=some y:=Y0;simp only[go_sem];refine⟨i+1,Yz,(by show lo.length-(i+1)<lo.length-i;omega),?_⟩;have XA:=Y0;rw[Rg]at XA
     (refine Q6 rfl ?_ ?_ ?_ ?_<;>(try simp only[go_sem,XA,QF,eA,Q4 (n:=(i:Int)+1) (by omega) (by omega)])<;>(try simp))
    |some m =>
     have Y0:fo2=if m<y then some y else some m:=Y0
     have Gv:lN m<=_:=Gv;have o7:=zgf y m (by omega) (by omega);by_cases cm:m<y
     .rw[Qc cm]at Y0
      rw[zjh cm]at o7;simp only[go_sem];refine Q2 o7 rfl ?_;simp only[go_sem];refine⟨i+1,Yz,(by show lo.length-(i+1)<lo.length-i;omega),?_⟩;have XA:=Y0;rw[Rg]at XA
      (refine Q6 rfl ?_ ?_ ?_ ?_<;>(try simp only[go_sem,XA,QF,eA,Q4 (n:=(i:Int)+1) (by omega) (by omega)])<;>(try simp))
     .rw[Qb cm]at Y0
      have hc:=zjg (x:=y) (y:=m) (by omega);have Jj:(0<Za y m)=False:=Ql (by omega);simp only[go_sem];refine Q2 o7 rfl ?_;simp only[go_sem,Jj];refine⟨i+1,Yz,(by show lo.length-(i+1)<lo.length-i;omega),?_⟩;have XA:=Y0;rw[Rg]at XA
      (refine Q6 rfl ?_ ?_ ?_ ?_<;>(try simp only[go_sem,XA,QF,eA,Q4 (n:=(i:Int)+1) (by omega) (by omega)])<;>(try simp))
   .obtain rfl:i=lo.length:=by omega
    rw[waa];have Gv:=Up lo.length;rw[waa]at Gv;generalize frL v p lo=fo at *
    simp only[go_sem];refine QJ (fun i:Nat=>stL 107 [(1,litI .i64 v),(2,.one (.vec 1000000 2 0 n)),(3,.one (.ptr 3 0)),(7,QO fo.isSome),(8,QO (toL v p (hi.take i)).isSome),(9,.one (.ptr 9 0)),(10,.one (.ptr 10 0)),(56,.one (.t (eL cF hi))),(57,litI .i64 hi.length),(58,litI .i64 i)]
      [(1000000,Q5 cJ (fnG n X0)),(3,(sB lo hi re).map .t),(9,(cJ (fo.getD 0)).map .t),(10,(cJ ((toL v p (hi.take i)).getD 0)).map .t)]) (fun i=>i<=hi.length) (fun i=>hi.length-i) 0 ?_ (Qk _) ?_
    .rw[was,show toL v p []=none from rfl]
     (refine Q6 rfl ?_ ?_ ?_ ?_<;>(try simp only[go_sem,QF,eA])<;>(try simp))
    .intro i Y6
     simp only[go_sem];refine QI (fun Y1=>?_) (fun YI=>?_)
     .have Yz:i<hi.length:=by omega
      have Y5:QP cF hi i=cF hi[i]:=Q8 Yz;have hf:=h2 _ (Qf Yz);have hA:=Vj _ hf;have o1:=fun {H:QE}=>zl5 hi[i] X0 1000000 hn hC (by omega) hf RO (H:=H)
      have o2:=zbN (atF hi[i] X0) (by omega);have o3:=zdc hf hn (by omega) v;have lx:=hf.lco v;have n1:=Zw (atF hi[i] X0);have o5:=zej (-(atF hi[i] X0)) (coM hi[i].1 v) (by omega) (by omega);have efr:Int.fdiv (-(atF hi[i] X0)) (coM hi[i].1 v)=toA v p hi[i]:=by unfold toA;rw[Wj]
      have lfr:=UE hi h2 _ (Qf Yz);have Kw:=Uq i;have Y0:toL v p (hi.take (i+1))=toS v p (toL v p (hi.take i)) hi[i]:=by rw[Zl Yz,zvb]
      rw[efr]at o5;obtain⟨to2,Rh⟩:∃ to2,to2=toL v p (hi.take (i+1)):=⟨_,rfl⟩
      rw[<-Rh]at Y0;generalize toL v p (hi.take i)=to at *
      unfold toS at Y0;generalize toA v p hi[i]=y at *
      generalize Int.fmod (-(atF hi[i] X0)) (coM hi[i].1 v)=fm at *
      generalize coM hi[i].1 v=c at *
      generalize -(atF hi[i] X0)=nA at *
      generalize atF hi[i] X0=A at *
      generalize hi[i]=l at *
      clear hA Xz UE Up Uq Vj efr;simp only[go_sem,Y5,Y1]
      (repeat(refine Qg (by omega) ?_))
      refine Q3 3 rfl ?_;simp only[go_sem];refine zht (o1 (by simp only[go_sem]<;>rfl)) ?_;simp only[go_sem];refine Q2 o2 rfl ?_;simp only[go_sem];refine Q2 o3 rfl ?_;simp only[go_sem];refine Q2 o5 rfl ?_;cases to with
      |none =>
       have Y0:to2=some y:=Y0;simp only[go_sem];refine⟨i+1,Yz,(by show hi.length-(i+1)<hi.length-i;omega),?_⟩;have XA:=Y0;rw[Rh]at XA
       (refine Q6 rfl ?_ ?_ ?_ ?_<;>(try simp only[go_sem,XA,QF,eA,Q4 (n:=(i:Int)+1) (by omega) (by omega)])<;>(try simp))
      |some m =>
       have Y0:to2=if y<m then some y else some m:=Y0
       have Kw:lN m<=_:=Kw;have o7:=zgf y m (by omega) (by omega);by_cases cm:y<m
       .rw[Qc cm]at Y0
        rw[zwb cm]at o7;simp only[go_sem];refine Q2 o7 rfl ?_;simp only[go_sem];refine⟨i+1,Yz,(by show hi.length-(i+1)<hi.length-i;omega),?_⟩;have XA:=Y0;rw[Rh]at XA
        (refine Q6 rfl ?_ ?_ ?_ ?_<;>(try simp only[go_sem,XA,QF,eA,Q4 (n:=(i:Int)+1) (by omega) (by omega)])<;>(try simp))
       .rw[Qb cm]at Y0
        have Jj:(Za y m<0)=False:=Ql (by unfold Za;rw[Qb cm];split<;>decide);simp only[go_sem];refine Q2 o7 rfl ?_;simp only[go_sem,Jj];refine⟨i+1,Yz,(by show hi.length-(i+1)<hi.length-i;omega),?_⟩;have XA:=Y0;rw[Rh]at XA
        (refine Q6 rfl ?_ ?_ ?_ ?_<;>(try simp only[go_sem,XA,QF,eA,Q4 (n:=(i:Int)+1) (by omega) (by omega)])<;>(try simp))
     .obtain rfl:i=hi.length:=by omega
      rw[waa];have Kw:=Uq hi.length;rw[waa]at Kw;generalize toL v p hi=to at *
      have sd:=fun q=>zbF hv (g:=X0) (q:=q)
      have UT:=zaD (n:=n) (g:=X0);have fin:∀ (q:Int),(fun i=>if i=v then q else X0 i)=Zt p v q:=fun q=>by rw[Wj];exact zts p v 0 q
      clear Xz UE Up Uq Vj;have Y9:∀ (H:QE) (q:Int),(∀ b,1000000<=b->H b=if b=1000000 then some (Q5 cJ (fnG n (Zt p v q)))else none)->∀ b,PIN<=b->H b=xV n (Zt p v q) b:=fun H q h b hb=>h b hb
      have sdt:∀ q:Int,(Q5 cJ (fnG n X0)).take (v*2)++Abs.C.t (.lit (.bool (decide (q<0))))::Abs.C.t (eN (dig q.natAbs))::(Q5 cJ (fnG n X0)).drop (v*2+2)=Q5 cJ (fnG n (Zt p v q)):=fun q=>by rw[sd,fin]
      have Dm:∀ {b:Nat},1000000<=b->(b=3)=False/\(b=9)=False/\(b=10)=False:=fun {b} h=>⟨Ql (by omega),Ql (by omega),Ql (by omega)⟩
      have Hh:∀ {α:Type} {x y z:α} (b:Nat),(if b=1000000 then x else if b=1000000 then y else z)=if b=1000000 then x else z:=fun b=>by split<;>rfl
      have OW:∀ {b:Nat},1000000<=b->(b=12)=False/\(b=17)=False:=fun {b} h=>⟨Ql (by omega),Ql (by omega)⟩
      cases fo with
      |none =>
       cases to with
       |none =>
        simp only[go_sem];refine⟨.inr rfl,(fun x hx=>by obtain rfl:=Qr.1 hx;trivial),rfl,Y9 _ 0 fun b hb=>?_⟩;rw[<-Wj];simp only[go_sem,Dm hb]
       |some t =>
        simp only[go_sem,XN,XD,UT,sdt]
        (repeat(refine Qg (by omega) ?_))
        refine⟨.inr rfl,(fun x hx=>by obtain rfl:=Qr.1 hx;trivial),rfl,Y9 _ t fun b hb=>?_⟩;simp only[go_sem,Dm hb];exact Hh b
      |some f =>
       cases to with
       |none =>
        simp only[go_sem,XN,XD,UT,sdt]
        (repeat(refine Qg (by omega) ?_))
        refine⟨.inr rfl,(fun x hx=>by obtain rfl:=Qr.1 hx;trivial),rfl,Y9 _ f fun b hb=>?_⟩;simp only[go_sem,Dm hb];exact Hh b
       |some t =>
        have Gv:lN f<=_:=Gv;have Kw:lN t<=_:=Kw;have o7:=zgf f t (by omega) (by omega);have e7:decide (Za f t<=0)=decide (f<=t):=waG.2 (by unfold Za;constructor<;>intro h<;>(repeat' split at *)<;>omega);simp only[go_sem,XN,XD,UT,sdt]
        (repeat(refine Qg (by omega) ?_))
        refine Q2 o7 rfl ?_;simp only[go_sem,e7];refine⟨.inr rfl,(fun x hx=>by obtain rfl:=Qr.1 hx;trivial),rfl,Y9 _ f fun b hb=>?_⟩;simp only[go_sem,Dm hb];exact Hh b
def zhR(l:LL):Int:=match l.1.getLast? with|some m=>m.1|none=>-9223372036854775808
def zeR(n:Int)(l:LL):Prop:=¬IsL l\/n<0\/(l.1≠[]/\n<=zhR l)
instance (n:Int) (l:LL):Decidable (zeR n l):=by unfold zeR;exact inferInstance
def zb2(ls:List LL)(n:Int):Int:=if 60<ls.length\/40<n then 21 else if(∃ l∈ls,zeR n l)\/n<0 then 10 else 0
theorem zon{l:List MM}(h:l≠[]):l.getLast? = some (l[l.length-1]'(by have:=wbc.2 h;omega)):=by
 rw[wc3,wab]
theorem zg9(ls:List LL)(n:Int)(GC : -9223372036854775808<=n)(FM:n<9223372036854775808)(hl:ls.length<1000000000)(h:∀ l∈ls,l.1.length<1000000000/\(∀ m∈l.1,m.2.2.length<100000000000/\-9223372036854775808<=m.1/\m.1<9223372036854775808)/\l.2.2.length<100000000000) :
  Q7 prog 30 [.one (eL cL ls),tI .i64 n] (tI .i64 (zb2 ls n)):=by
 refine QH QB call30 func30 rfl ntmps30 results30 (by simp) (by decide) ?_;unfold zb2;by_cases c1:60<ls.length
 .rw[Qc (.inl c1)]
  have c1':((60:Int)<(ls.length:Int))=True:=Qh (by omega);simp only[go_sem,c1'];try rfl
 .have c1':((60:Int)<(ls.length:Int))=False:=Ql (by omega)
  by_cases c2:40<n
  .rw[Qc (.inr c2)]
   have c2':((40:Int)<n)=True:=Qh c2;simp only[go_sem,c1',c2'];try rfl
  .rw[Qb (by rintro(h|h)<;>contradiction)]
   have c2':((40:Int)<n)=False:=Ql c2;simp only[go_sem,c1',c2'];refine QJ (fun i:Nat=>stL 49 [(1,litI .i64 n),(14,.one (.t (eL cL ls))),(15,litI .i64 ls.length),(16,litI .i64 i)] []) (fun i=>i<=ls.length/\∀ l∈ls.take i,¬zeR n l) (fun i=>ls.length-i) 0 ?_ ⟨Qk _,by rw[was];intro m hm;cases hm⟩ ?_
   ·(refine Q6 rfl ?_ ?_ ?_ ?_<;>(try simp only[go_sem])<;>(try simp))
   .rintro i ⟨hi,Y3⟩
    simp only[go_sem];refine QI (fun Y1=>?_) (fun YI=>?_)
    .have Yz:i<ls.length:=by omega
     have Y5:QP cL ls i=cL ls[i]:=Q8 Yz;have WQ:=h _ (Qf Yz);have o1:=l_Is ls[i] WQ.1 (fun m hm=>(WQ.2.1 m hm).1) WQ.2.2;have XW:zeR n ls[i]->(if(∃ l∈ls,zeR n l)\/n<0 then(10:Int)else 0)=10:=fun h=>Qc (.inl ⟨_,Qf Yz,h⟩)
     have Y0:¬zeR n ls[i]->∀ l∈ls.take (i+1),¬zeR n l:=fun h m hm=>by
      rw[Zl Yz]at hm;rcases wao.1 hm with hm|hm
      .exact Y3 m hm
      .obtain rfl:=Qr.1 hm;exact h
     generalize ls[i]=l at *
     simp only[go_sem,Y5,Y1]
     (repeat(refine Qg (by omega) ?_))
     by_cases d1:IsL l
     .have o1:=zbT o1 d1
      by_cases d2:n<0
      .have d2':(n<0)=True:=Qh d2
       rw[XW (.inr (.inl d2))];refine Q2 o1 rfl ?_;simp only[go_sem,d2'];try rfl
      .have d2':(n<0)=False:=Ql d2
       by_cases d3:l.1=[]
       .have d3':((0:Int)<(l.1.length:Int))=False:=Ql (by rw[d3];decide)
        refine Q2 o1 rfl ?_;simp only[go_sem,d2',d3'];refine⟨i+1,⟨Yz,Y0 (fun h=>h.elim (fun h=>h d1) fun h=>h.elim d2 fun h=>h.1 d3)⟩,(by show ls.length-(i+1)<ls.length-i;omega),?_⟩
        (refine Q6 rfl ?_ ?_ ?_ ?_<;>(try simp only[go_sem,Q4 (n:=(i:Int)+1) (by omega) (by omega)])<;>(try simp))
       .have hp:=wbc.2 d3
        have d3':((0:Int)<(l.1.length:Int))=True:=Qh (by omega);have hw:IntKind.wrap .i64 ((l.1.length:Int)-1)=((l.1.length-1:Nat):Int):=by rw[Q4 (by omega) (by omega)];omega
        have hk:l.1.length-1<l.1.length:=by omega
        have FX:QP cM l.1 (l.1.length-1)=cM l.1[l.1.length-1]:=Q8 hk;have Xa:zhR l=l.1[l.1.length-1].1:=by unfold zhR;rw[zon d3]
        rw[show l.1.length-1=l.1.length-1 from rfl]at hw;generalize l.1[l.1.length-1]=m at *
        obtain⟨k,Ud⟩:∃ k,k=l.1.length-1:=⟨_,rfl⟩
        rw[<-Ud]at hw FX hk;have VV:((0:Int)<=(k:Int))=True:=Qh (by omega);have VG:((k:Int)<(l.1.length:Int))=True:=Qh (by omega);by_cases d4:n<=m.1
        .have d4':(n<=m.1)=True:=Qh d4
         rw[XW (.inr (.inr ⟨d3,by rw[Xa];exact d4⟩))];refine Q2 o1 rfl ?_;simp only[go_sem,d2',d3',hw,FX,VV,VG,d4'];try rfl
        .have d4':(n<=m.1)=False:=Ql d4
         refine Q2 o1 rfl ?_;simp only[go_sem,d2',d3',hw,FX,VV,VG,d4'];refine⟨i+1,⟨Yz,Y0 (fun h=>h.elim (fun h=>h d1) fun h=>h.elim d2 fun h=>d4 (by rw[<-Xa];exact h.2))⟩,(by show ls.length-(i+1)<ls.length-i;omega),?_⟩
         (refine Q6 rfl ?_ ?_ ?_ ?_<;>(try simp only[go_sem,Q4 (n:=(i:Int)+1) (by omega) (by omega)])<;>(try simp))
     .have o1:=zdn o1 d1
      rw[XW (.inl d1)];refine Q2 o1 rfl ?_;simp only[go_sem];try rfl
    .obtain rfl:i=ls.length:=by omega
     rw[waa]at Y3;by_cases d2:n<0
     .have d2':(n<0)=True:=Qh d2
      rw[Qc (.inr d2)];simp only[go_sem,d2'];try rfl
     .have d2':(n<0)=False:=Ql d2
      rw[Qb (fun h=>h.elim (fun⟨l,h1,h2⟩=>Y3 l h1 h2) d2)];simp only[go_sem,d2'];try rfl
theorem zoK(c:Fm)(out:List Fm){n C K:Nat}(hn:n<=1000000)(hC:C<=4000000000)(hx:out.length<1000000000)(hc:Fv n C K c)(ho:∀ o∈out,Fv n C K o)(idx:Int)(hi:(∃ k:Nat,∃ hk:k<out.length,idx=k/\out[k].1=c.1/\∀ q∈out.take k,¬q.1=c.1)\/(idx = -1/\∀ q∈out,¬q.1=c.1)){H:QE}(h1:H 7=some ((cF c).map .t))(h2:out=[]\/H 1000=some (Q5 cF out)) :
  RdC prog 76 [.one (QX 1000 3 out),.one (.fn 77 [(7,0)])] H (litI .i64 idx):=by
 cases out with
 |nil =>
  obtain rfl:idx = -1:=by
   rcases hi with⟨k,hk,_⟩|⟨h,_⟩
   .exact Qn hk (wa5 _)
   .exact h
  exact zrw 7 (zsr c 77) rfl (Qs.2 ⟨trivial,Qs.2 ⟨xF_f,fun x hx=>by cases hx⟩⟩) h1
 |cons z zs =>
  rcases h2 with h2|h2
  .cases h2
  .refine zyD 7 1000 (by decide) (zs0 c (z::zs) 77 (fun o=>decide (o.1=c.1)) hx (fun o Pz=>zu0 o c hn hC (ho o Pz) hc) idx ?_) rfl (Qs.2 ⟨zzu,Qs.2 ⟨zzv,fun x hx=>by cases hx⟩⟩) h1 h2
   rcases hi with⟨k,hk,e,h3,h4⟩|⟨e,h3⟩
   .exact .inl ⟨k,hk,e,waC h3,fun q hq=>wan (h4 q hq)⟩
   .exact .inr ⟨e,fun q hq=>wan (h3 q hq)⟩
theorem zvi(c:Fm)(out:List Fm):(∃ k:Nat,∃ hk:k<out.length,out[k].1=c.1/\∀ q∈out.take k,¬q.1=c.1)\/∀ q∈out,¬q.1=c.1:=by
 cases h:out.any fun o=>decide (o.1=c.1)with
 |true =>
  obtain⟨k,hk,h1,h2⟩:=zmA _ out h;exact .inl ⟨k,hk,of_decide_eq_true h1,fun q hq=>of_decide_eq_false (h2 q hq)⟩
 |false=>exact .inr fun q hq e=>List.any_eq_false.1 h q hq (waC e)
theorem zwQ{ys:List Fm}:(Q5 cF ys).length=ys.length*3:=zcG Z9
theorem cF_K{ys:List Fm}{i:Nat}(hi:i<ys.length):(Q5 cF ys).drop (i*3+1)=Abs.C.t (.lit (.bool (decide (ys[i].2<0))))::Abs.C.t (eN (dig ys[i].2.natAbs))::Q5 cF (ys.drop (i+1)):=by
 rw[<-wcB,ziy Z9 hi];rfl
theorem zza{ys:List Fm}{i:Nat}(hi:i<ys.length){q:Fm}:(Q5 cF ys).take (i*3)++Abs.C.t (eL cMn q.1)::Abs.C.t (.lit (.bool (decide (q.2<0))))::Abs.C.t (eN (dig q.2.natAbs))::(Q5 cF ys).drop (i*3+3)=Q5 cF (ys.set i q):=by
 have:=zgZ (f:=cF) (sz:=3) Z9 hi (y:=q);rw[<-this];simp[Yq]
noncomputable def zfK(ls:List Fm)(n:Nat):TV:=by
 classical exact if okN ls/\okE (Zu ls)then .tup [.agg (sN (Zu ls) n (evI (Zu ls) (Zu ls).length)),tB true]else .tup [.agg [.junk,.junk,.junk],tB false]
theorem ziK{ls:List Fm}{n:Nat}(h1:okN ls)(h2:okE (Zu ls)):zfK ls n = .tup [.agg (sN (Zu ls) n (evI (Zu ls) (Zu ls).length)),tB true]:=Qc ⟨h1,h2⟩
theorem ztO{ls:List Fm}{n:Nat}{a:Fm}(ha:a∈ls)(hc:clF a=3):zfK ls n = .tup [.agg [.junk,.junk,.junk],tB false]:=Qb fun h=>h.1 a ha hc
theorem ztP{ls:List Fm}{n:Nat}(h:¬okE (Zu ls)):zfK ls n = .tup [.agg [.junk,.junk,.junk],tB false]:=Qb fun h'=>h h'.2
theorem zoL{H:QE}{a b c:Go.Abs.C}:FzA H (.agg [a,b,c]) (.agg [.junk,.junk,.junk]):=zjU (.cons .junk (.cons .junk (.cons .junk .nil)))
theorem ziL(ls:List Fm)(m:Nat){n C K:Nat}(hn:n<=1000000)(hC:max C K<=500000000)(hl:ls.length<100000000)(h:∀ f∈ls,Fv n C K f) :
  Q7 prog 51 [.agg (sS ls m)] (zfK ls m):=by
 refine QH QB call51 func51 rfl ntmps51 results51 (by simp) (by decide) ?_;have NE:=fun i=>zlg (P:=fun f=>Fv n (C+1) (K+1) f/\f.1≠[]) (ls:=ls) (fun a ha hc=>⟨(h a ha).norm,fun e=>by
  have e2:=zlN a;rw[hc]at e2;exact zgn.1 e2 e⟩) (i:=i)
 have NF:=zlh ls;simp only[go_sem];refine QJ (fun i:Nat=>stL 113 [(2,.one (.ptr 2 0)),(4,.one (.ptr 4 0)),(19,.one (.t (eL cF ls))),(20,litI .i64 ls.length),(21,litI .i64 i)]
   (Zb 1000 cF (Zu (ls.take i))++[(2,[.t (.seq (some true) []),.t (.lit (.int .i64 0)),.t (.seq (some true) [])]),(4,[QX 1000 3 (Zu (ls.take i)),.t (.lit (.int .i64 m)),.t (.seq (some true) [])])])) (fun i=>i<=ls.length/\okN (ls.take i)) (fun i=>ls.length-i) 0 ?_ ⟨Qk _,by rw[was];intro a ha;cases ha⟩ ?_
 .rw[was,show Zu []=[]from rfl]
  (refine Q6 rfl ?_ ?_ ?_ ?_<;>(try simp only[go_sem])<;>(try simp))
 .rintro i ⟨hi,YB⟩
  simp only[go_sem];refine QI (fun Y1=>?_) (fun YI=>?_)
  .have Yz:i<ls.length:=by omega
   have Y5:QP cF ls i=cF ls[i]:=Q8 Yz;have hf:=h _ (Qf Yz);have o1:=zuD ls[i] (N:=n) (L:=max C K) (by omega) (by omega) hf.wf (hf.bd hn (wbT _ _) (wbO _ _));have Y0:Zu (ls.take (i+1))=zdA (Zu (ls.take i)) ls[i]:=by rw[Zl Yz,zf7]
   have X8:=fun hc=>ztO (n:=m) (Qf Yz) hc
   have Rv:¬clF ls[i]=3->okN (ls.take (i+1)):=fun hc a ha=>by
    rw[Zl Yz]at ha;rcases wao.1 ha with ha|ha
    .exact YB a ha
    .obtain rfl:=Qr.1 ha;exact hc
   have K4:=NE i;have KD:=NF i;have XD:=hf.norm;have Xo:=cl3 ls[i];unfold zdA at Y0;obtain⟨N2,EY⟩:∃ N2,N2=Zu (ls.take (i+1)):=⟨_,rfl⟩
   rw[<-EY]at Y0;generalize Zu (ls.take i)=out at *
   generalize zfK ls m=R at *
   generalize SY:ZR ls[i]=c at *
   generalize clF ls[i]=cl at *
   generalize ls[i]=a at *
   simp only[go_sem,Y5,Y1]
   (repeat(refine Qg (by omega) ?_))
   refine Q2 o1 rfl ?_;by_cases c3:cl=3
   .rw[X8 c3]
    simp only[go_sem,Qh c3];exact zao zoL (.one .t)
   .have c3':(cl=3)=False:=Ql c3
    by_cases c2:cl=2
    .have c2':(cl=2)=True:=Qh c2
     rw[Qb (by omega)]at Y0;simp only[go_sem,c3',c2'];refine⟨i+1,⟨Yz,Rv c3⟩,(by show ls.length-(i+1)<ls.length-i;omega),?_⟩;rw[EY]at Y0
     (refine Q6 rfl ?_ ?_ ?_ ?_<;>(try simp only[go_sem,Y0,Q4 (n:=(i:Int)+1) (by omega) (by omega)])<;>(try simp))
    .have c2':(cl=2)=False:=Ql c2
     have c1:cl=1:=by rcases Xo with h|h|h<;>omega
     rw[Qc c1]at Y0;simp only[go_sem,c3',c2'];rcases zvi c out with⟨k,hk,h3,h4⟩|h3
     .refine zbL (.inr rfl) (zoK c out (n:=n) (C:=C+1) (K:=K+1) hn (by omega) (by omega) XD (fun o ho=>(K4 o ho).1) k (.inl ⟨k,hk,rfl,h3,h4⟩) (by simp only[go_sem]<;>rfl) (by simp only[go_sem])) ?_
      have k0:((k:Int)<0)=False:=Ql (by omega);have k1:((0:Int)<=(k:Int))=True:=Qh (by omega);have k2:((k:Int)<(out.length:Int))=True:=Qh (by omega);have Ko:QX 1000 3 out=Go.Abs.C.vec 1000 3 0 out.length:=by cases out with
       |nil=>exact Qn hk (wa5 _)
       |cons _ _=>rfl
      have Vw:∀ o,ZK cF out o=some (Q5 cF out):=fun o=>by cases out with
       |nil=>exact Qn hk (wa5 _)
       |cons _ _=>rfl
      have hne:¬out=[]:=fun e=>by rw[e]at hk;exact Qn hk (wa5 _)
      have hK:=cF_K hk;have UT:=zwQ (ys:=out);have Ua:=zza hk (q:=c);have HP:=znU hk h3 h4;rw[HP]at Y0;have SZ:=(K4 _ (Qf hk)).1.ko;have Ta:=XD.ko;have o2:=zgf c.2 out[k].2 (by omega) (by omega);have DH:QX 1000 3 (out.set k c)=Go.Abs.C.vec 1000 3 0 out.length:=by
       have e:(out.set k c).length=out.length:=List.length_set ..;rw[<-e];cases h:out.set k c with
       |nil=>rw[h]at e;have:0=out.length:=e;omega
       |cons _ _=>rfl
      have DI:∀ o,ZK cF (out.set k c) o=some (Q5 cF (out.set k c)):=fun o=>by
       have e:(out.set k c).length=out.length:=List.length_set ..;cases h:out.set k c with
       |nil=>rw[h]at e;have:0=out.length:=e;omega
       |cons _ _=>rfl
      generalize out[k]=o at *
      rw[EY]at Y0;simp only[go_sem,k0];refine Q3 0 rfl ?_;simp only[go_sem,Ko,k1,k2,hK,Vw]
      (repeat(refine Qg (by omega) ?_))
      refine Q2 o2 rfl ?_;by_cases cm:o.2<c.2
      .rw[Qc cm]at Y0
       rw[zjh cm];simp only[go_sem,k1,k2,Vw,UT,Ua]
       (repeat(refine Qg (by omega) ?_))
       refine⟨i+1,⟨Yz,Rv c3⟩,(by show ls.length-(i+1)<ls.length-i;omega),?_⟩;((refine Q6 rfl ?_ ?_ ?_ ?_<;>(try simp only[go_sem,Y0,DH,Q4 (n:=(i:Int)+1) (by omega) (by omega)])<;>(try simp)))<;>exact hne
      .rw[Qb cm]at Y0
       have hc:=zjg (x:=c.2) (y:=o.2) (by omega);have Jj:(0<Za c.2 o.2)=False:=Ql (by omega);simp only[go_sem,Jj];refine⟨i+1,⟨Yz,Rv c3⟩,(by show ls.length-(i+1)<ls.length-i;omega),?_⟩;((refine Q6 rfl ?_ ?_ ?_ ?_<;>(try simp only[go_sem,Y0,Ko,Vw,Q4 (n:=(i:Int)+1) (by omega) (by omega)])<;>(try simp)))<;>exact hne
     .refine zbL (.inr rfl) (zoK c out (n:=n) (C:=C+1) (K:=K+1) hn (by omega) (by omega) XD (fun o ho=>(K4 o ho).1) (-1) (.inr ⟨rfl,h3⟩) (by simp only[go_sem]<;>rfl) (by simp only[go_sem])) ?_
      rw[znT h3]at Y0;simp only[go_sem];refine ZF (sz:=3) (bytes:=56) (by simp only[go_sem,QW]<;>decide) Z9 out [c] (b:=1000) (by simp only[go_sem]<;>rfl) (by simp only[go_sem]<;>rfl) (by simp only[go_sem]<;>rfl) rfl (by simp) (by simp only[Qe,Qi]at *;omega) (by decide) ?_;simp only[go_sem];refine⟨i+1,⟨Yz,Rv c3⟩,(by show ls.length-(i+1)<ls.length-i;omega),?_⟩;rw[EY]at Y0
      (refine Q6 rfl ?_ ?_ ?_ ?_<;>(try simp only[go_sem,Y0,Q4 (n:=(i:Int)+1) (by omega) (by omega)])<;>(try simp))
  .obtain rfl:i=ls.length:=by omega
   rw[waa]at YB;have K4:=NE ls.length;have KD:=NF ls.length;rw[waa]at K4 KD ⊢;have UR:=ziK (n:=m) YB;have X8:=ztP (ls:=ls) (n:=m);have Ri:=zpP ls;generalize Zu ls=out at *
   generalize zfK ls m=R at *
   clear NE NF h;have HQ:=zlY Ri;simp only[go_sem];refine QJ (fun i:Nat=>stL 113 [(2,.one (.ptr 2 0)),(4,.one (.ptr 4 0)),(72,.one (.t (eL cF out))),(73,litI .i64 out.length),(74,litI .i64 i)]
     (Zb 1001 cF (evI out i)++[(2,[.t (.seq (some true) []),.t (.lit (.int .i64 0)),.t (.seq (some true) [])]),(4,[.t (eL cF out),.t (.lit (.int .i64 m)),QX 1001 3 (evI out i)])])) (fun i=>i<=out.length/\∀ i' j (hj:j<i') (Y6:i'<i) (hl:i'<out.length),Ym out[i'] (out[j]'(by omega))->out[i'].2+(out[j]'(by omega)).2<=0) (fun i=>out.length-i) 0 ?_ ⟨Qk _,fun i' j hj Y6=>Qn Y6 (wa5 _)⟩ ?_
   .show Go.Abs.GStep _ (stL 113 [(2,.one (.ptr 2 0)),(4,.one (.ptr 4 0)),(72,.one (.t (eL cF out))),(73,litI .i64 out.length),(74,litI .i64 (0:Nat))] (Zb 1001 cF []++[(2,[.t (.seq (some true) []),.t (.lit (.int .i64 0)),.t (.seq (some true) [])]),(4,[.t (eL cF out),.t (.lit (.int .i64 m)),QX 1001 3 []])]))
    cases out with
    |nil =>
     refine GStep.trans (zik 72 (by simp only[go_sem]<;>rfl)) ?_;refine GStep.trans (zaA 4 (cs:=[.t (.seq (some true) []),.t (.lit (.int .i64 m)),.t (.seq (some true) [])]) (by simp only[go_sem]<;>rfl) (.cons .seq (.cons .refl (.cons .refl .nil)))) ?_;((refine Q6 rfl ?_ ?_ ?_ ?_<;>(try simp only[go_sem])<;>(try simp)))<;>rfl
    |cons z zs =>
     refine GStep.trans (zbj (b:=1000) (sz:=3) (len:=(z::zs).length) (by simp only[go_sem]<;>rfl) (Yp Z9)) ?_
     (refine Q6 rfl ?_ ?_ ?_ ?_<;>(try simp only[go_sem])<;>(try simp))
   .rintro i ⟨hi,Y3⟩
    simp only[go_sem];refine QI (fun Y1=>?_) (fun YI=>?_)
    .have Yz:i<out.length:=by omega
     have Y5:QP cF out i=cF out[i]:=Q8 Yz;have K5:=HQ i;have HS:evI out (i+1)=evI out i++evJ out[i] (out.take i):=by
      show _++evJ (out.getD i ([],0)) _=_;rw[waE,wab Yz];rfl
     obtain⟨A,hA⟩:∃ A:Nat->List Fm,A=fun j=>evI out i++evJ out[i] (out.take j):=⟨_,rfl⟩
     have Kn:A 0=evI out i:=by rw[hA];show _++evJ _ (out.take 0)=_;rw[was];exact wak _
     have GW:A i=evI out (i+1):=by rw[hA,HS]
     have GY:∀ j (hj:j<out.length),A (j+1)=A j++(if Ym out[i] out[j]/\out[i].2+out[j].2=0 then[out[i]]else[]):=fun j hj=>by
      rw[hA];show _++evJ _ (out.take (j+1))=(_++evJ _ (out.take j))++_;rw[Zl hj,zo8,waN]
     have GX:∀ j,j<=i->(A j).length<=i+1:=fun j hj=>by
      rw[hA];show(_++evJ _ (out.take j)).length<=_;have:=zlJ out[i] (l:=out.take j) (Ri.sublist (List.take_sublist _ _));rw[Qj];omega
     have Gy:=(K4 _ (Qf Yz)).1;have Vz:((0:Int)<=(i:Int))=True:=Qh (by omega);have NG:min i out.length=i:=wbx (by omega);have UE:(out.take i).length=i:=by rw[waB];exact NG
     rw[<-Kn];simp only[go_sem,Y5,Y1,Vz]
     (repeat(refine Qg (by omega) ?_))
     refine QJ (fun j:Nat=>stL 113 [(2,.one (.ptr 2 0)),(4,.one (.ptr 4 0)),(11,.one (.ptr 11 0)),(72,.one (.t (eL cF out))),(73,litI .i64 out.length),(74,litI .i64 i),(83,.one (.t (eL cF (out.take i)))),(84,litI .i64 i),(85,litI .i64 j)]
       (Zb 1001 cF (A j)++[(2,[.t (.seq (some true) []),.t (.lit (.int .i64 0)),.t (.seq (some true) [])]),(4,[.t (eL cF out),.t (.lit (.int .i64 m)),QX 1001 3 (A j)]),(11,(cF out[i]).map .t)])) (fun j=>j<=i/\∀ j' (hj:j'<j) (hl:j'<out.length),Ym out[i] out[j']->out[i].2+out[j'].2<=0) (fun j=>i-j) 0 ?_ ⟨Qk _,fun j' hj=>Qn hj (wa5 _)⟩ ?_
     ·((refine Q6 rfl ?_ ?_ ?_ ?_<;>(try simp only[go_sem])<;>(try simp)))<;>exact .inl (by rw[NG])
     .rintro j ⟨hj,hjn⟩
      simp only[go_sem];refine QI (fun Vh=>?_) (fun JW=>?_)
      .have YH:j<i:=by omega
       have ME:j<out.length:=by omega
       have YQ:QP cF (out.take i) j=cF out[j]:=by rw[Q8 (by rw[waB];omega),List.getElem_take]
       have RL:=(K4 _ (Qf ME)).1;have o1:=ztx out[i] out[j] hn (by omega) Gy RL;have E7:=Gy.ko;have Mb:=RL.ko;have o2:=zdf out[i].2 out[j].2 (by omega) (by omega);have l2:=za8 out[i].2 out[j].2;have o3:=zdJ (out[i].2+out[j].2) (by omega);have JC:=GY j ME;have Pk:=GX j (by omega);have NH:(Ym out[i] out[j]->out[i].2+out[j].2<=0)->∀ j' (hj:j'<j+1) (hl:j'<out.length),Ym out[i] out[j']->out[i].2+out[j'].2<=0:=fun h j' Y2 hl ht=>by
        by_cases e:j'=j
        .subst e;exact h ht
        .exact hjn j' (by omega) hl ht
       have XW:Ym out[i] out[j]->0<out[i].2+out[j].2->R = .tup [.agg [.junk,.junk,.junk],tB false]:=fun ht hp=>X8 fun he=>by have:=he i j YH Yz ht;omega
       simp only[go_sem,YQ,Vh];refine⟨⟨by omega,by omega⟩,?_⟩;by_cases ht:Ym out[i] out[j]
       .have o1:=zbT o1 ht
        rcases wbF (out[i].2+out[j].2) 0 with cs|cs|cs
        .rw[Qb (fun h=>by have:=h.2;omega),wak]at JC
         have s1:((out[i].2+out[j].2).sign=1)=False:=Ql (by rw[wcq cs];decide);have s2:((out[i].2+out[j].2).sign=0)=False:=Ql (by rw[wcq cs];decide);refine Q2 o1 rfl ?_;simp only[go_sem];refine Q2 o2 rfl ?_;simp only[go_sem];refine Q2 o3 rfl ?_;simp only[go_sem,s1,s2];refine⟨j+1,⟨YH,NH fun _=>by omega⟩,(by show i-(j+1)<i-j;omega),?_⟩
         (refine Q6 rfl ?_ ?_ ?_ ?_<;>(try simp only[go_sem,JC,Q4 (n:=(j:Int)+1) (by omega) (by omega)])<;>(try simp))
        .rw[Qc ⟨ht,cs⟩]at JC
         have s1:((out[i].2+out[j].2).sign=1)=False:=Ql (by rw[cs];decide);have s2:((out[i].2+out[j].2).sign=0)=True:=Qh (by rw[cs];rfl);refine Q2 o1 rfl ?_;simp only[go_sem];refine Q2 o2 rfl ?_;simp only[go_sem];refine Q2 o3 rfl ?_;simp only[go_sem,s1,s2];refine ZF (sz:=3) (bytes:=56) (by simp only[go_sem,QW]<;>decide) Z9 (A j) [out[i]] (b:=1001) (by simp only[go_sem]<;>rfl) (by simp only[go_sem]<;>rfl) (by simp only[go_sem]<;>rfl) rfl (by simp) (by simp only[Qe,Qi]at *;omega) (by decide) ?_;simp only[go_sem];refine⟨j+1,⟨YH,NH fun _=>by omega⟩,(by show i-(j+1)<i-j;omega),?_⟩
         (refine Q6 rfl ?_ ?_ ?_ ?_<;>(try simp only[go_sem,JC,Q4 (n:=(j:Int)+1) (by omega) (by omega)])<;>(try simp))
        .have s1:((out[i].2+out[j].2).sign=1)=True:=Qh (wbQ cs)
         rw[XW ht cs];refine Q2 o1 rfl ?_;simp only[go_sem];refine Q2 o2 rfl ?_;simp only[go_sem];refine Q2 o3 rfl ?_;simp only[go_sem,s1];exact zao zoL (.one .t)
       .have o1:=zdn o1 ht
        rw[Qb (fun h=>ht h.1),wak]at JC;refine Q2 o1 rfl ?_;simp only[go_sem];refine⟨j+1,⟨YH,NH fun h=>Qn h ht⟩,(by show i-(j+1)<i-j;omega),?_⟩
        (refine Q6 rfl ?_ ?_ ?_ ?_<;>(try simp only[go_sem,JC,Q4 (n:=(j:Int)+1) (by omega) (by omega)])<;>(try simp))
      .obtain rfl:j=i:=by omega
       rw[GW];simp only[go_sem];refine⟨j+1,⟨Yz,fun i' j' Y2 Y6 hl=>by
        by_cases e:i'=j
        .subst e;exact hjn j' Y2 (by omega)
        .exact Y3 i' j' Y2 (by omega) hl⟩,(by show out.length-(j+1)<out.length-j;omega),?_⟩
       (refine Q6 rfl ?_ ?_ ?_ ?_<;>(try simp only[go_sem,Q4 (n:=(j:Int)+1) (by omega) (by omega)])<;>(try simp))
    .obtain rfl:i=out.length:=by omega
     have he:okE out:=fun i' j hj hl ht=>Y3 i' j hj hl hl ht
     rw[UR he];simp only[go_sem];exact zao (zjU (.cons .t (.cons .t (.cons (zd3 Z9 (by simp only[go_sem])) .nil)))) (.one .t)
@[go_sem] theorem zAM{b s o n:Nat}:zaT .neq (.one (.vec b s o n)) (.one (.t (.seq (some true) [])))=some (QO true):=rfl
@[go_sem] theorem zBG{P:Program}{t:TypeId}{b s o n:Nat}:zcY P t (.one (.vec b s o n))=(tok P t=true/\isSliceD (tdesc P t)=true):=rfl
def zdy(n:Nat):Option (Nat->Int)->List (Nat×List Go.Abs.C)
 |some p=>[(900000,Q5 cJ (fnG n p))]
 |none=>[]
def zh8(n:Nat):Option (Nat->Int)->AV
 |some _=>.one (.vec 900000 2 0 n)
 |none=>.one (.t (.seq (some true) []))
def solA(n:Nat)(o:Option (Nat->Int)):AV:=.tup [zh8 n o,QO o.isSome]
def zbV(ls:List Fm)(n B:Nat)(o:Option (Nat->Int)):Prop:=match o with
 |some p=>Sat ls p/\∀ v,v<n->lN (p v)<=B
 |none=>∀ p,¬Sat ls p
theorem zcw{n:Nat}{o:Option (Nat->Int)}(b:Nat)(h:Q9 (zdy n o) b≠none):b=900000:=by
 cases o with
 |none=>exact(h rfl).elim
 |some p =>
  have h:(if b=900000 then some (Q5 cJ (fnG n p))else none)≠none:=h;split at h
  .assumption
  .exact(h rfl).elim
theorem zby{n:Nat}{o:Option (Nat->Int)}(b:Nat)(cs:List Go.Abs.C)(h:Q9 (zdy n o) b=some cs):∀ c∈cs,inC (Q9 (zdy n o)) c:=by
 cases o with
 |none=>cases h
 |some p =>
  have h:(if b=900000 then some (Q5 cJ (fnG n p))else none)=some cs:=h;split at h
  .cases h
   intro c hc;unfold Q5 at hc;obtain⟨t,_,rfl⟩:=Qp.1 hc;trivial
  .cases h
theorem zff{n:Nat}{o:Option (Nat->Int)}{b:Bool}:inA (Q9 (zdy n o)) (.tup [zh8 n o,QO b]):=by
 refine⟨?_,trivial,trivial⟩;cases o with
 |none=>trivial
 |some p =>
  show(if 900000=900000 then some (Q5 cJ (fnG n p))else none)≠none;simp
def brF(v:Nat)(k:Int):Fm:=QN (QN ([],0) (scF (Zf v) 1)) (scF (Zd k) (-1))
theorem zx4(v:Nat)(k:Int)(p:Nat->Int):atF (brF v k) p=p v-k:=by
 unfold brF;rw[zdW,zdW,zch,zch,zqi,zf9];have:atF (([]:List Mn),(0:Int)) p=0:=rfl;rw[this];omega
theorem zx5{n v:Nat}(hv:v<n){k:Int}{V:Nat}(hk:lN k<=V):Fv n 6 (V+4) (brF v k):=by
 have l1:=zcP;have l2:lN (-1)<=1:=by rw[Zw];exact l1
 have a:=(Fv.zero (n:=n) (C:=0) (K:=0)).add ((Fv.var hv).sc (c:=1) l1) (D:=3) (E:=2) (by omega) (by omega);exact a.add ((Fv.const (n:=n) (C:=0) hk).sc (c:=-1) l2) (by omega) (by omega)
theorem Fv.neg{n C K:Nat}{f:Fm}(h:Fv n C K f):Fv n (C+2) (K+3) (zc2 f):=by
 have l1:=zcP;have l2:lN (-1)<=1:=by rw[Zw];exact l1
 exact(Fv.const (n:=n) (C:=0) (K:=1) l1).add (h.sc (c:=-1) l2) (by omega) (by omega)
def brT(ls:List Fm)(n B:Nat)(o:Option (Nat->Int))(kn:Bool):Prop:=match o with
 |some p=>kn=true/\Sat ls p/\∀ v,v<n->lN (p v)<=B
 |none=>kn=true->∀ p,¬Sat ls p
def zgN(ls:List Fm)(n B l:Nat):Prop:=∃ (o:Option (Nat->Int)) (kn:Bool) (l':Nat),l'<=l/\brT ls n B o kn /\
 zhQ prog 53 [.agg ((sS ls n).map .t),.one (.ptr PIN 0)] [.lit (.int .i64 (l:Int))] [.lit (.int .i64 (l':Int))] (Q9 (zdy n o)) (.tup [zh8 n o,QO kn])
theorem den1{q:Rat}(h:q.den=1):q=((q.num:Int):Rat):=by
 apply Rat.ext<;>simp[h]
theorem zuM(x:List Rat):(∃ k:Nat,∃ hk:k<x.length,¬x[k].den=1/\∀ q∈x.take k,q.den=1)\/∀ q∈x,q.den=1:=by
 cases h:x.any fun q=>decide (¬q.den=1)with
 |true =>
  obtain⟨k,hk,h1,h2⟩:=zmA _ x h;exact .inl ⟨k,hk,of_decide_eq_true h1,fun q hq=>waF fun c=>by have:=h2 q hq;rw[waC c]at this;cases this⟩
 |false=>exact .inr fun q hq=>waF fun c=>List.any_eq_false.1 h q hq (waC c)
theorem zgA{ls:List Fm}{n l:Nat}:∀ x∈[AV.agg ((sS ls n).map Go.Abs.C.t),AV.one (.ptr PIN 0)],inA (Yr [.lit (.int .i64 (l:Int))]) x :=
 Qs.2 ⟨(fun c hc=>by obtain⟨t,_,rfl⟩:=Qp.1 hc;trivial),Qs.2 ⟨(by show(if PIN=PIN then some _ else none)≠none;simp),fun x hx=>by cases hx⟩⟩
theorem zfv{P:Program}{c1:List Go.Abs.T}{Y:QE}{x y:AV}{σ:St}(h4:σ.s 4=x)(h5:σ.s 5=y)(hP:σ.H PIN=some (c1.map .t))(hX:∀ b cs,Y b=some cs->σ.H b=some cs):zrg P [.tmp 4,.tmp 5] c1 Y (.tup [x,y]) .ret σ :=
 ⟨.inr rfl,(fun x hx=>by
  rcases wad.1 hx with rfl|hx
  .trivial
  .obtain rfl:=Qr.1 hx;trivial),by rw[<-h4,<-h5];rfl,hP,hX⟩
theorem zcM{n:Nat}{o:Option (Nat->Int)}{σ:St}(h:∀ p,o=some p->σ.H 900000=some (Q5 cJ (fnG n p))):∀ b cs,Q9 (zdy n o) b=some cs->σ.H b=some cs:=fun b cs hb=>by
 obtain rfl:=zcw b (by rw[hb];simp);cases o with
 |none=>cases hb
 |some p =>
  have hb:some (Q5 cJ (fnG n p))=some cs:=hb;rw[<-hb];exact h p rfl
theorem zsL(ls:List Fm)(n B:Nat):zgN ls n B 0:=by
 refine⟨none,false,0,Qd _,(fun h=>by cases h),?_⟩;refine zfW QB call53 func53 rfl ntmps53 results53 (by simp) (by decide) ?_ ?_ ?_ ?_ ?_
 .exact zgA
 .intro b hb;have:=zcw b hb;show b<1000000;omega
 .exact zby
 .exact zff
 .simp only[go_sem,PIN,Yr]
  exact zfv rfl rfl rfl (fun b cs hb=>by cases hb)
theorem zkX{m:Nat}{ys:List AV}{ls:List Fm}{n l l':Nat}{p:Nat->Int}{kn:Bool}{σ:St}{K:AV->St->Prop}(L:Nat)(hm:m=1\/m=2)
  (h:zhQ prog 53 [.agg ((sS ls n).map .t),.one (.ptr PIN 0)] [.lit (.int .i64 (l:Int))] [.lit (.int .i64 (l':Int))] (Q9 (zdy n (some p))) (.tup [zh8 n (some p),QO kn])) (Xc:ys=[.agg ((sS ls n).map .t),.one (.ptr L 0)])
  (hL:σ.H L=some [.t (.lit (.int .i64 (l:Int)))]) (hn:σ.H 900000=none) (hne:L≠900000) (hK:K (.tup [.one (.vec 900000 2 0 n),QO kn]) (σ.withH (upd (upd σ.H L (some [.t (.lit (.int .i64 (l':Int)))])) 900000 (some (Q5 cJ (fnG n p)))))):ZM prog m 53 ys σ K:=by
 refine zpv L id hm h (by rw[Xc];rfl) hL (fun b hb=>?_) (fun b b' _ _ e=>e) (H':=upd (upd σ.H L (some [.t (.lit (.int .i64 (l':Int)))])) 900000 (some (Q5 cJ (fnG n p)))) ?_ (fun b cs hb=>?_) (fun x hx hb=>?_) hK
 .obtain rfl:=zcw b hb
  exact⟨hn,by decide⟩
 .show(if L=900000 then _ else if L=L then _ else _)=_
  rw[Qb hne,Qc rfl];rfl
 .obtain rfl:=zcw b (by rw[hb];simp)
  have hb:some (Q5 cJ (fnG n p))=some cs:=hb;cases hb
  show some _=_;rw[way (g:=id) fun c _=>zn6 c,wb4]
 .have:x≠900000:=fun e=>hb 900000 (by show(if 900000=900000 then _ else _)≠none;simp) e.symm
  show(if x=900000 then _ else if x=L then _ else _)=_;rw[Qb this,Qb hx]
theorem zhb{m:Nat}{ys:List AV}{ls:List Fm}{n l l':Nat}{kn:Bool}{σ:St}{K:AV->St->Prop}(L:Nat)(hm:m=1\/m=2)
  (h:zhQ prog 53 [.agg ((sS ls n).map .t),.one (.ptr PIN 0)] [.lit (.int .i64 (l:Int))] [.lit (.int .i64 (l':Int))] (Q9 (zdy n none)) (.tup [zh8 n none,QO kn])) (Xc:ys=[.agg ((sS ls n).map .t),.one (.ptr L 0)])
  (hL:σ.H L=some [.t (.lit (.int .i64 (l:Int)))]) (hK:K (.tup [.one (.t (.seq (some true) [])),QO kn]) (σ.withH (upd σ.H L (some [.t (.lit (.int .i64 (l':Int)))])))):ZM prog m 53 ys σ K:=by
 refine zpv L id hm h (by rw[Xc];rfl) hL (fun b hb=>(hb rfl).elim) (fun b b' _ _ e=>e) (H':=upd σ.H L (some [.t (.lit (.int .i64 (l':Int)))])) ?_ (fun b cs hb=>by cases hb) (fun x hx _=>?_) hK
 .show(if L=L then _ else _)=_
  rw[Qc rfl];rfl
 .show(if x=L then _ else _)=_
  rw[Qb hx]
theorem zsM(l:Nat)(hl:l<40){n C B:Nat}(hn:n<=4)(hC:8<=C)(IH:∀ (l1:Nat),l1<=l->∀ (ls:List Fm) (K:Nat),ls≠[]->ls.length<=8000-l1->4*C+K+6+l1*(4*C+14)<=B->(∀ f∈ls,Fv n C K f)->zgN ls n B l1)
  (ls:List Fm) (K:Nat) (hne:ls≠[]) (KM:ls.length<=8000-(l+1)) (hB:B<=400000000) (hK:4*C+K+6+(l+1)*(4*C+14)<=B) (YY:∀ f∈ls,Fv n C K f):zgN ls n B (l+1):=by
 have Ma:(l+1)*(4*C+14)=l*(4*C+14)+(4*C+14):=wa1 _ _;have XM:IntKind.wrap .i64 (((l+1:Nat):Int)-1)=(l:Int):=by rw[Q4 (by omega) (by omega)];omega
 have hg:(((l+1:Nat):Int)<=0)=False:=Ql (by omega);obtain⟨l2,UH⟩:∃ l2:Nat,l2=l+1:=⟨_,rfl⟩
 rw[<-UH]at XM hg ⊢;rcases zoW ls n hn (by omega) YY (by omega)with⟨x,Uz,EE,hc,hx⟩|⟨g,Gr,SE,Jv,hc⟩
 .rcases zuM x with⟨k,hk,OM,Mb⟩|hall
  ·
   have XS:k<n:=by omega
   have Wf:=Qf hk;have SF:=EE _ Wf;generalize hr:x[k]=r at *
   have lnr:=zaF r;have ldr:=zbm r;have lfl:=znZ r;obtain⟨F,hF⟩:∃ F,F=brF k r.floor:=⟨_,rfl⟩
   have fF:Fv n 6 (4*C+K+11) F:=by rw[hF];exact zx5 XS (V:=4*C+K+7) (by omega)
   have fG:=fF.neg;have oB:=zuw k (zfS r) (K:=B+1) (by omega) (by omega) (by omega) (by omega) (by show lN r.num<=_;omega) (by show lN (r.den:Int)<=_;omega) F (by rw[hF];unfold brF;rw[zjJ,wbB]);have hi:=zmX (x.map zfS) (fun q=>decide (¬(qQ q).den=1)) 90 (by rw[Qm];omega) (fun s hs=>by
    obtain⟨u,hu,rfl⟩:=Qp.1 hs;have h1:=EE u hu;have h2:=zaF u;have h3:=zbm u;exact znd (zfS u) (K:=B+1) (by omega) (by omega) (by show lN u.num<=_;omega) (by show lN (u.den:Int)<=_;omega)) k (.inl ⟨k,by rw[Qm];exact hk,rfl,by rw[Qq,zjJ,hr];exact waC OM,fun s hs=>by
    rw[<-wdg]at hs;obtain⟨u,hu,rfl⟩:=Qp.1 hs;rw[zjJ];exact wan (fun h=>h (Mb u hu))⟩)
   rw[zqO]at hi;have w1:=(zlG ls [F] n hne (by omega) (show 1<100000000 by decide)).tw (tvs':=[.agg (sS ls n),.one (.seq (some false) [cF F])]) (.cons .reflA (.cons (.one .weak) .nil));have w2:=(zlG ls [zc2 F] n hne (by omega) (show 1<100000000 by decide)).tw (tvs':=[.agg (sS ls n),.one (.seq (some false) [cF (zc2 F)])]) (.cons .reflA (.cons (.one .weak) .nil));have YT:∀ {g:Fm},Fv n C (K+(4*C+14)) g->∀ f∈ls++[g],Fv n C (K+(4*C+14)) f:=fun hg f hf=>by
    rcases wao.1 hf with hf|hf
    .exact(YY f hf).mono (Qd _) (Qd _) (by omega)
    .obtain rfl:=Qr.1 hf;exact hg
   obtain⟨o1,k1,l1,VZ,Uj,Jb⟩:=IH l (Qd _) (ls++[F]) (K+(4*C+14)) (by simp) (by simp;omega) (by omega) (YT (fF.mono (Qd _) (by omega) (by omega)));have hm:l1*(4*C+14)<=l*(4*C+14):=wag _ VZ;obtain⟨o2,k2,l3,L2,WD,WY⟩:=IH l1 VZ (ls++[zc2 F]) (K+(4*C+14)) (by simp) (by simp;omega) (by omega) (YT (fG.mono (Qd _) (by omega) (by omega)));have Y5:QP cR x k=cR r:=by rw[<-hr];exact Q8 hk
   have VV:((k:Int)<0)=False:=Ql (by omega);have VG:((0:Int)<=(k:Int))=True:=Qh (by omega);have Kh:((k:Int)<(x.length:Int))=True:=Qh (by omega);have ON:l<=40:=by omega
   cases o1 with
   |some p =>
    obtain⟨rfl,Uk,KN⟩:=Uj;refine⟨some p,true,l1,by omega,⟨rfl,(Sat.app.1 Uk).1,KN⟩,?_⟩;refine zfW QB call53 func53 rfl ntmps53 results53 (by simp) (by decide) ?_ ?_ ?_ ?_ ?_
    .exact zgA
    .intro b hb;have:=zcw b hb;show b<1000000;omega
    .exact zby
    .exact zff
    .simp only[go_sem,PIN,Yr,hg,XM]
     refine Q2 hc rfl ?_;simp only[go_sem];refine zhL rfl hi rfl ?_;simp only[go_sem,VV,VG,Kh,Y5]
     (repeat(refine Qg (by omega) ?_))
     refine Q2 oB rfl ?_;simp only[go_sem,Yr,PIN];refine Q2 w1 rfl ?_;simp only[go_sem];refine zkX 1000000 (.inr rfl) Jb rfl (by simp only[go_sem,Yr,PIN]<;>rfl) (by simp only[go_sem,Yr,PIN]<;>rfl) (by decide) ?_;simp only[go_sem];exact zfv rfl rfl (by simp only[go_sem,PIN]<;>rfl) (zcM fun p hp=>by cases hp;simp only[go_sem]<;>rfl)
   |none =>
    cases o2 with
    |some p =>
     obtain⟨rfl,Uk,KN⟩:=WD;refine⟨some p,true,l3,by omega,⟨rfl,(Sat.app.1 Uk).1,KN⟩,?_⟩;refine zfW QB call53 func53 rfl ntmps53 results53 (by simp) (by decide) ?_ ?_ ?_ ?_ ?_
     .exact zgA
     .intro b hb;have:=zcw b hb;show b<1000000;omega
     .exact zby
     .exact zff
     .simp only[go_sem,PIN,Yr,hg,XM]
      refine Q2 hc rfl ?_;simp only[go_sem];refine zhL rfl hi rfl ?_;simp only[go_sem,VV,VG,Kh,Y5]
      (repeat(refine Qg (by omega) ?_))
      refine Q2 oB rfl ?_;simp only[go_sem,Yr,PIN];refine Q2 w1 rfl ?_;simp only[go_sem];refine zhb 1000000 (.inr rfl) Jb rfl (by simp only[go_sem,Yr,PIN]<;>rfl) ?_;simp only[go_sem];refine Q2 w2 rfl ?_;simp only[go_sem];refine zkX 1000000 (.inr rfl) WY rfl (by simp only[go_sem,Yr,PIN]<;>rfl) (by simp only[go_sem,Yr,PIN]<;>rfl) (by decide) ?_;simp only[go_sem];exact zfv rfl rfl (by simp only[go_sem,PIN]<;>rfl) (zcM fun p hp=>by cases hp;simp only[go_sem]<;>rfl)
    |none =>
     refine⟨none,k1&&k2,l3,by omega,fun hk p hp=>?_,?_⟩
     .rw[waj]at hk
      have n1:=Uj hk.1 p;have n2:=WD hk.2 p;have e1:=zx4 k r.floor p;rw[<-hF]at e1;by_cases c:p k<=r.floor
      .exact n1 (Sat.app.2 ⟨hp,fun f hf=>by rw[Qr.1 hf,e1];omega⟩)
      .exact n2 (Sat.app.2 ⟨hp,fun f hf=>by rw[Qr.1 hf,zyw,e1];omega⟩)
     .refine zfW QB call53 func53 rfl ntmps53 results53 (by simp) (by decide) ?_ ?_ ?_ ?_ ?_
      .exact zgA
      .intro b hb;have:=zcw b hb;show b<1000000;omega
      .exact zby
      .exact zff
      .simp only[go_sem,PIN,Yr,hg,XM]
       refine Q2 hc rfl ?_;simp only[go_sem];refine zhL rfl hi rfl ?_;simp only[go_sem,VV,VG,Kh,Y5]
       (repeat(refine Qg (by omega) ?_))
       refine Q2 oB rfl ?_;simp only[go_sem,Yr,PIN];refine Q2 w1 rfl ?_;simp only[go_sem];refine zhb 1000000 (.inr rfl) Jb rfl (by simp only[go_sem,Yr,PIN]<;>rfl) ?_;simp only[go_sem];refine Q2 w2 rfl ?_;simp only[go_sem];refine zhb 1000000 (.inr rfl) WY rfl (by simp only[go_sem,Yr,PIN]<;>rfl) ?_;cases k1 with
       |true =>
        simp only[go_sem];exact zfv rfl rfl (by simp only[go_sem,PIN]<;>rfl) (fun b cs hb=>by cases hb)
       |false =>
        simp only[go_sem];exact zfv rfl rfl (by simp only[go_sem,PIN]<;>rfl) (fun b cs hb=>by cases hb)
  ·
   obtain⟨q,hq⟩:∃ q:Nat->Int,q=fun j=>(x.getD j 0).num:=⟨_,rfl⟩
   have OO:∀ v,ptR x v=((q v:Int):Rat):=fun v=>by
    rw[hq];unfold ptR;show x.getD v 0=(((x.getD v 0).num:Int):Rat)
    have hd:(x.getD v 0).den=1:=by
     rw[waE];cases e:x[v]? with
     |none=>rfl
     |some r=>exact hall r (wcU e)
    exact den1 hd
   have VO:Sat ls q:=fun f hf=>by
    have h1:=hx f hf;rw[zt5 OO]at h1
    exact_mod_cast h1
   refine⟨some q,true,l,by omega,⟨rfl,VO,fun v hv=>?_⟩,?_⟩
   .have h1:=EE (x.getD v 0) (by rw[waE,wab (by omega)];exact Qf _)
    have h2:=zaF (x.getD v 0);rw[hq];show lN (x.getD v 0).num<=B;omega
   .have hi:=zmX (x.map zfS) (fun q=>decide (¬(qQ q).den=1)) 90 (by rw[Qm];omega) (fun r hr=>by
     obtain⟨s,hs,rfl⟩:=Qp.1 hr;have h1:=EE s hs;have h2:=zaF s;have h3:=zbm s;exact znd (zfS s) (K:=B+1) (by omega) (by omega) (by show lN s.num<=_;omega) (by show lN (s.den:Int)<=_;omega)) (-1) (.inr ⟨rfl,fun r hr=>by
     obtain⟨s,hs,rfl⟩:=Qp.1 hr;rw[zjJ];exact wan (fun h=>h (hall s hs))⟩)
    rw[zqO]at hi;refine zfW QB call53 func53 rfl ntmps53 results53 (by simp) (by decide) ?_ ?_ ?_ ?_ ?_
    .exact zgA
    .intro b hb;have:=zcw b hb;show b<1000000;omega
    .exact zby
    .exact zff
    .have Xu:((0:Int)<=(n:Int))=True:=Qh (by omega)
     simp only[go_sem,PIN,Yr,hg,XM];refine Q2 hc rfl ?_;simp only[go_sem];refine zhL rfl hi rfl ?_;simp only[go_sem,Xu];refine⟨⟨rfl,wbr _,by omega,by omega⟩,?_⟩;refine QJ (fun i:Nat=>stL 97 [(10,.one (.vec 900000 2 0 n)),(46,.one (.t (eL cR x))),(47,litI .i64 x.length),(48,litI .i64 i)]
       [(1000000,[.t (.lit (.int .i64 (l:Int)))]),(900000,Q5 cJ (fnG n fun j=>if j<i then q j else 0))]) (fun i=>i<=n) (fun i=>n-i) 0 ?_ (Qk _) ?_
     .refine GStep.trans (zdd (b:=45) (b':=900000) (by simp only[go_sem,Yr,PIN]<;>rfl) (by decide) (by decide)) ?_
      refine GStep.trans (zaA 900000 (cs:=Zh n [Abs.C.t (Abs.T.lit (Value.bool false)),Abs.C.t (Abs.T.seq (some true) [])]) (by simp only[go_sem,Yr,PIN]<;>simp[Zh,rnC]) (zgb n)) ?_;have e0:(fun j=>if j<0 then q j else(0:Int))=fun _=>0:=by funext j;rw[Qb (wa5 _)]
      rw[e0]
      (refine Q6 rfl ?_ ?_ ?_ ?_<;>(try simp only[go_sem,QF,Yr,PIN])<;>(try simp))
     .intro i hi
      simp only[go_sem];refine QI (fun Y1=>?_) (fun YI=>?_)
      .have Xw:i<n:=by omega
       have Mc:i<x.length:=by omega
       have Y5:QP cR x i=cR x[i]:=Q8 Mc;have Hc:q i=x[i].num:=by rw[hq];show(x.getD i 0).num=_;rw[waE,wab Mc];rfl
       have cl:=fun g=>zaD (n:=n) (g:=g)
       have sd:=zbF (n:=n) (g:=fun j=>if j<i then q j else 0) Xw (q:=x[i].num);have sde:fnG n (fun v=>if v=i then x[i].num else if v<i then q v else 0)=fnG n (fun v=>if v<i+1 then q v else 0):=Yo fun v hv=>by
        by_cases e1:v=i
        .rw[Qc e1,Qc (by omega),e1,Hc]
        .rw[Qb e1]
         by_cases e2:v<i
         .rw[Qc e2,Qc (by omega)]
         .rw[Qb e2,Qb (by omega)]
       rw[sde]at sd;generalize x[i]=r at *
       have Vz:((0:Int)<=(i:Int))=True:=Qh (by omega);have Ul:((i:Int)<(n:Int))=True:=Qh (by omega);simp only[go_sem,Y5,Y1,cl,sd,Vz,Ul]
       (repeat(refine Qg (by omega) ?_))
       refine⟨i+1,Xw,(by show n-(i+1)<n-i;omega),?_⟩
       (refine Q6 rfl ?_ ?_ ?_ ?_<;>(try simp only[go_sem,QF,Q4 (n:=(i:Int)+1) (by omega) (by omega)])<;>(try simp))
      .obtain rfl:i=n:=by omega
       simp only[go_sem];have e1:fnG i (fun j=>if j<i then q j else 0)=fnG i q:=Yo fun v hv=>Qc hv
       rw[e1];exact zfv rfl rfl (by simp only[go_sem,PIN]<;>rfl) (zcM fun p hp=>by cases hp;simp only[go_sem]<;>rfl)
 ·
  refine⟨none,true,l,by omega,fun _ p hp=>Jv.sat YY hp,?_⟩;refine zfW QB call53 func53 rfl ntmps53 results53 (by simp) (by decide) ?_ ?_ ?_ ?_ ?_
  .exact zgA
  .intro b hb;have:=zcw b hb;show b<1000000;omega
  .exact zby
  .exact zff
  .simp only[go_sem,PIN,Yr,hg,XM]
   refine Q2 hc rfl ?_;simp only[go_sem];exact zfv rfl rfl rfl (fun b cs hb=>by cases hb)
end Go.Proofs.YtlgjjcmljmjenaaGreat
