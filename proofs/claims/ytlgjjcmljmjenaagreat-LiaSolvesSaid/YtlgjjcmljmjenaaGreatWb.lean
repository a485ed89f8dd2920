/- At every input the call answers true and leaves its arguments as they were; no conditions. -/
import Derived.Test.YtlgjjcmljmjenaaGreatWa
set_option linter.unusedSimpArgs false
set_option linter.unusedVariables false
set_option maxRecDepth 100000
set_option maxHeartbeats 32000000
namespace Go.Proofs.YtlgjjcmljmjenaaGreat
open Go Go.Abs Go.Proofs.Tryz
section
variable {n C K C' K':Nat} {f g:Fm}
theorem ze7(hf:Fv n C K f)(hg:Fv n C' K' g)(hn:n<=1000000)(hC:max (max C K) (max C' K')<=4000000000):Q9 prog 85 [eF f,eF g] (eF (QP f g)) :=
 zo3 f g (N:=n) (L:=max (max C K) (max C' K')) (by omega) (by omega) hf.wf hg.wf (hf.bd hn (by omega) (by omega)) (hg.bd hn (by omega) (by omega))
theorem zeS(hf:Fv n C K f)(hn:n<=1000000)(hC:max C K<=4000000000){c:Int}(hc:lN c<=4000000000):Q9 prog 86 [eF f,eI c] (eF (scF f c)) :=
 zkn f c (N:=n) (L:=max C K) (by omega) (by omega) hf.wf (hf.bd hn (by omega) (by omega)) (by omega)
end
theorem zsh:Q9 prog 143 [.one (.seq (some true) [])] (.one (.seq (some true) [])):=by
 refine QJ QC call143 func143 rfl ntmps143 results143 (by simp) (by decide) ?_;simp only[go_sem];exact zgq (.one (.seq (some true) []))
def shI(d:Bool)(v:Nat)(lo hi re:List Fm)(i:Nat):List Fm:=re++(lo.take i).flatMap fun l=>hi.map (sh1 d v l)
theorem zn6{d:Bool}{v:Nat}{lo hi re:List Fm}:shI d v lo hi re 0=re:=wal _
theorem zn7{d:Bool}{v:Nat}{lo hi re:List Fm}{i:Nat}(h:i<lo.length):shI d v lo hi re (i+1)=shI d v lo hi re i++hi.map (sh1 d v lo[i]):=by
 unfold shI;rw[Zd h,List.flatMap_append,waM];simp
theorem zpo{d:Bool}{v:Nat}{lo hi re:List Fm}(i:Nat):(shI d v lo hi re i).length<=re.length+i*hi.length:=by
 have:=zpF d v (lo.take i) hi re;unfold shV at this;unfold shI;rw[this,wat];exact wcz (wak _ (by omega)) _
theorem ztp(d:Bool)(v:Nat)(lo hi re:List Fm){n C K:Nat}(hn:n<=1000000)(hC:max C K<=1000000000)(hv:v<1000000)(hl:re.length+(lo.length+1)*hi.length<=100000000)(Kf:lo.length<100000000)(h1:∀ f∈lo,Fv n C K f)(h2:∀ f∈hi,Fv n C K f) :
  Q9 prog 97 [.agg (sB lo hi re),tI .i64 v,tB d] (.one (eL cF (shV d v lo hi re))):=by
 refine QJ QC call97 func97 rfl ntmps97 results97 (by simp) (by decide) ?_;have w1:=zbP 1 (by decide) (by decide);have l1:=zcL;by_cases hr:re=[]
 .subst hr
  simp only[go_sem,eA];refine Q3 zsh rfl ?_;simp only[go_sem];refine QK (fun i:Nat=>stL 66 [(1,litI .i64 v),(2,QO d),(3,.one (.ptr 3 0)),(7,zaf 1000 3 (shI d v lo hi [] i)),(20,.one (.t (eL cF lo))),(21,litI .i64 lo.length),(22,litI .i64 i)]
    (Zb 1000 cF (shI d v lo hi [] i)++[(3,(sB lo hi []).map .t)])) (fun i=>i<=lo.length) (fun i=>lo.length-i) 0 ?_ (Qk _) ?_
  .rw[zn6]
   (refine Q7 rfl ?_ ?_ ?_ ?_<;>(try simp only[go_sem,eA])<;>(try simp))
  .intro i Y6
   simp only[go_sem];refine QI (fun Yw=>?_) (fun YG=>?_)
   .have Yv:i<lo.length:=by omega
    have Y1:QM cF lo i=cF lo[i]:=Q8 Yv;have hf:=h1 _ (Qh Yv);have KU:=zn7 (d:=d) (v:=v) (hi:=hi) (re:=[]) Yv;have Y0:=zpo (d:=d) (v:=v) (lo:=lo) (hi:=hi) (re:=[]) i;have KV:(i+1)*hi.length<=(lo.length+1)*hi.length:=wak _ (by omega);rw[waX]at KV;generalize lo[i]=l at *
    obtain⟨A,hA⟩:∃ A:Nat->List Fm,A=fun j=>shI d v lo hi [] i++(hi.take j).map (sh1 d v l):=⟨_,rfl⟩
    have Kg:A 0=shI d v lo hi [] i:=by rw[hA];show _++(hi.take 0).map _=_;rw[wao,waH,wal]
    have GK:A hi.length=shI d v lo hi [] (i+1):=by rw[hA,KU];show _++(hi.take hi.length).map _=_;rw[Q1]
    have GL:∀ j,(A j).length<=([]:List Fm).length+i*hi.length+j:=fun j=>by rw[hA];show(_++(hi.take j).map _).length<=_;rw[Qj,Qm,wat];omega
    have GM:∀ j (hj:j<hi.length),A (j+1)=A j++[sh1 d v l hi[j]]:=fun j hj=>by rw[hA];show _++(hi.take (j+1)).map _=(_++(hi.take j).map _)++_;rw[Zd hj,waG,waM];rfl
    rw[<-Kg];clear hA Kg KU Y0;simp only[go_sem,Y1,Yw]
    (repeat(refine Qg (by omega) ?_))
    refine QK (fun j:Nat=>stL 66 [(1,litI .i64 v),(2,QO d),(3,.one (.ptr 3 0)),(7,zaf 1000 3 (A j)),(9,.one (.ptr 9 0)),(20,.one (.t (eL cF lo))),(21,litI .i64 lo.length),(22,litI .i64 i),(27,.one (.t (eL cF hi))),(28,litI .i64 hi.length),(29,litI .i64 j)]
      (Zb 1000 cF (A j)++[(3,(sB lo hi []).map .t),(9,(cF l).map .t)])) (fun j=>j<=hi.length) (fun j=>hi.length-j) 0 ?_ (Qk _) ?_
    ·(refine Q7 rfl ?_ ?_ ?_ ?_<;>(try simp only[go_sem,eA])<;>(try simp))
    .intro j hj
     simp only[go_sem];refine QI (fun YS=>?_) (fun Wt=>?_)
     .have Y2:j<hi.length:=by omega
      have YI:QM cF hi j=cF hi[j]:=Q8 Y2;have hg:=h2 _ (Qh Y2);have Uc:=GM j Y2;have Rp:=GL j;have o1:=zc5 hf hn (by omega) v;have o3:=zc5 hg hn (by omega) v;have lx:=hf.lco v;have ly:=hg.lco v;have o2:=zbO (coM l.1 v) (by omega);have s1:=hf.sc ly;have s2:=hg.sc (c:=-(coM l.1 v)) (D:=C) (by rw[Zs];exact lx);have o4:=zeS hf hn (by omega) (c:=coM hi[j].1 v) (by omega);have o5:=zeS hg hn (by omega) (c:=-(coM l.1 v)) (by rw[Zs];omega);have s3:Fv n (2*C+1) (K+C+1) (QP (scF l (coM hi[j].1 v)) (scF hi[j] (-(coM l.1 v)))):=s1.add s2 (by omega) (by omega);have o6:=ze7 s1 s2 hn (by omega);have a1:=zey (-(coM l.1 v)) 1;have a2:=zey (coM hi[j].1 v) 1;have a3:=ZX (-(coM l.1 v)-1) (coM hi[j].1 v-1);have a4:=Zs (coM l.1 v);have o7:=zep (-(coM l.1 v)) 1 (by omega) (by omega);have o8:=zep (coM hi[j].1 v) 1 (by omega) (by omega);have o9:=zdJ (-(coM l.1 v)-1) (coM hi[j].1 v-1) (by omega) (by omega);have o10:=zeR ((-(coM l.1 v)-1)*(coM hi[j].1 v-1)) (by omega);have s4:Fv n 0 (2*C+4) (Ze ((-(coM l.1 v)-1)*(coM hi[j].1 v-1))):=Fv.const (by omega);have o11:=ze7 s3 s4 hn (by omega);clear s1 s2 s3 s4 a1 a2 a3 a4;have Vj:sh1 d v l hi[j]=if d=true then QP (QP (scF l (coM hi[j].1 v)) (scF hi[j] (-(coM l.1 v)))) (Ze ((-(coM l.1 v)-1)*(coM hi[j].1 v-1)))else QP (scF l (coM hi[j].1 v)) (scF hi[j] (-(coM l.1 v))):=rfl
      generalize sh1 d v l hi[j]=sh at *
      generalize coM l.1 v=x at *
      generalize coM hi[j].1 v=y at *
      generalize hi[j]=h at *
      generalize (-x-1)*(y-1)=z at *
      generalize QP (scF l y) (scF h (-x))=c0 at *
      generalize QP c0 (Ze z)=c1 at *
      generalize scF l y=g1 at *
      generalize scF h (-x)=g2 at *
      generalize Ze z=g3 at *
      simp only[go_sem,YI,YS]
      (repeat(refine Qg (by omega) ?_))
      ((repeat(refine Q4 0 rfl ?_;simp only[go_sem]));refine Q3 (o1) rfl ?_;simp only[go_sem];(repeat(refine Q4 0 rfl ?_;simp only[go_sem]));refine Q3 (o2) rfl ?_;simp only[go_sem];(repeat(refine Q4 0 rfl ?_;simp only[go_sem]));refine Q3 (o3) rfl ?_;simp only[go_sem];(repeat(refine Q4 0 rfl ?_;simp only[go_sem]));refine Q3 (o4) rfl ?_;simp only[go_sem];(repeat(refine Q4 0 rfl ?_;simp only[go_sem]));refine Q3 (o5) rfl ?_;simp only[go_sem];(repeat(refine Q4 0 rfl ?_;simp only[go_sem]));refine Q3 (o6) rfl ?_;simp only[go_sem];(repeat(refine Q4 0 rfl ?_;simp only[go_sem])));cases d with
      |false =>
       have Vj:sh=c0:=Vj;rw[Vj]at Uc;simp only[go_sem];refine ZC (sz:=3) (bytes:=56) (by simp only[go_sem,QV]<;>decide) ZB (A j) [c0] (b:=1000) (by simp only[go_sem]<;>rfl) (by simp only[go_sem]<;>rfl) (by simp only[go_sem]<;>rfl) rfl (by simp) (by simp only[Qe,Qi]at *;omega) (by decide) ?_;simp only[go_sem];refine⟨j+1,Y2,(by show hi.length-(j+1)<hi.length-j;omega),?_⟩
       (refine Q7 rfl ?_ ?_ ?_ ?_<;>(try simp only[go_sem,Uc,eA,Q6 (n:=(j:Int)+1) (by omega) (by omega)])<;>(try simp))
      |true =>
       have Vj:sh=c1:=Vj;rw[Vj]at Uc;simp only[go_sem];((repeat(refine Q4 0 rfl ?_;simp only[go_sem]));refine Q3 (w1) rfl ?_;simp only[go_sem];(repeat(refine Q4 0 rfl ?_;simp only[go_sem]));refine Q3 (o7) rfl ?_;simp only[go_sem];(repeat(refine Q4 0 rfl ?_;simp only[go_sem]));refine Q3 (w1) rfl ?_;simp only[go_sem];(repeat(refine Q4 0 rfl ?_;simp only[go_sem]));refine Q3 (o8) rfl ?_;simp only[go_sem];(repeat(refine Q4 0 rfl ?_;simp only[go_sem]));refine Q3 (o9) rfl ?_;simp only[go_sem];(repeat(refine Q4 0 rfl ?_;simp only[go_sem]));refine Q3 (o10) rfl ?_;simp only[go_sem];(repeat(refine Q4 0 rfl ?_;simp only[go_sem]));refine Q3 (o11) rfl ?_;simp only[go_sem];(repeat(refine Q4 0 rfl ?_;simp only[go_sem])));refine ZC (sz:=3) (bytes:=56) (by simp only[go_sem,QV]<;>decide) ZB (A j) [c1] (b:=1000) (by simp only[go_sem]<;>rfl) (by simp only[go_sem]<;>rfl) (by simp only[go_sem]<;>rfl) rfl (by simp) (by simp only[Qe,Qi]at *;omega) (by decide) ?_;simp only[go_sem];refine⟨j+1,Y2,(by show hi.length-(j+1)<hi.length-j;omega),?_⟩
       (refine Q7 rfl ?_ ?_ ?_ ?_<;>(try simp only[go_sem,Uc,eA,Q6 (n:=(j:Int)+1) (by omega) (by omega)])<;>(try simp))
     .obtain rfl:j=hi.length:=by omega
      rw[GK];simp only[go_sem];refine⟨i+1,Yv,(by show lo.length-(i+1)<lo.length-i;omega),?_⟩
      (refine Q7 rfl ?_ ?_ ?_ ?_<;>(try simp only[go_sem,eA,Q6 (n:=(i:Int)+1) (by omega) (by omega)])<;>(try simp))
   .obtain rfl:i=lo.length:=by omega
    rw[show shI d v lo hi [] lo.length=shV d v lo hi [] by unfold shI shV;rw[Q1]];simp only[go_sem];exact zlE ZB (by simp only[go_sem])
 .have hb:re.isEmpty=false:=by cases re with
   |nil=>exact(hr rfl).elim
   |cons _ _=>rfl
  have Kh:Go.Abs.C.vec 1000 3 0 re.length=QX 1000 3 re:=by cases re with
   |nil=>exact(hr rfl).elim
   |cons _ _=>rfl
  simp only[go_sem,eA,hb];refine zf3 1000 (.inr rfl) (ziR re (by omega)) (by first|rfl|(simp only[go_sem]<;>rfl)) (by simp only[go_sem]) (by decide) ?_;simp only[go_sem,Kh];refine QK (fun i:Nat=>stL 66 [(1,litI .i64 v),(2,QO d),(3,.one (.ptr 3 0)),(7,zaf 1000 3 (shI d v lo hi re i)),(20,.one (.t (eL cF lo))),(21,litI .i64 lo.length),(22,litI .i64 i)]
    (Zb 1000 cF (shI d v lo hi re i)++[(3,(sB lo hi re).map .t)])) (fun i=>i<=lo.length) (fun i=>lo.length-i) 0 ?_ (Qk _) ?_
  .rw[zn6]
   ((refine Q7 rfl ?_ ?_ ?_ ?_<;>(try simp only[go_sem,eA,hb])<;>(try simp)))<;>first|exact Kh|exact hr
  .intro i Y6
   simp only[go_sem];refine QI (fun Yw=>?_) (fun YG=>?_)
   .have Yv:i<lo.length:=by omega
    have Y1:QM cF lo i=cF lo[i]:=Q8 Yv;have hf:=h1 _ (Qh Yv);have KU:=zn7 (d:=d) (v:=v) (hi:=hi) (re:=re) Yv;have Y0:=zpo (d:=d) (v:=v) (lo:=lo) (hi:=hi) (re:=re) i;have KV:(i+1)*hi.length<=(lo.length+1)*hi.length:=wak _ (by omega);rw[waX]at KV;generalize lo[i]=l at *
    obtain⟨A,hA⟩:∃ A:Nat->List Fm,A=fun j=>shI d v lo hi re i++(hi.take j).map (sh1 d v l):=⟨_,rfl⟩
    have Kg:A 0=shI d v lo hi re i:=by rw[hA];show _++(hi.take 0).map _=_;rw[wao,waH,wal]
    have GK:A hi.length=shI d v lo hi re (i+1):=by rw[hA,KU];show _++(hi.take hi.length).map _=_;rw[Q1]
    have GL:∀ j,(A j).length<=re.length+i*hi.length+j:=fun j=>by rw[hA];show(_++(hi.take j).map _).length<=_;rw[Qj,Qm,wat];omega
    have GM:∀ j (hj:j<hi.length),A (j+1)=A j++[sh1 d v l hi[j]]:=fun j hj=>by rw[hA];show _++(hi.take (j+1)).map _=(_++(hi.take j).map _)++_;rw[Zd hj,waG,waM];rfl
    rw[<-Kg];clear hA Kg KU Y0;simp only[go_sem,Y1,Yw]
    (repeat(refine Qg (by omega) ?_))
    refine QK (fun j:Nat=>stL 66 [(1,litI .i64 v),(2,QO d),(3,.one (.ptr 3 0)),(7,zaf 1000 3 (A j)),(9,.one (.ptr 9 0)),(20,.one (.t (eL cF lo))),(21,litI .i64 lo.length),(22,litI .i64 i),(27,.one (.t (eL cF hi))),(28,litI .i64 hi.length),(29,litI .i64 j)]
      (Zb 1000 cF (A j)++[(3,(sB lo hi re).map .t),(9,(cF l).map .t)])) (fun j=>j<=hi.length) (fun j=>hi.length-j) 0 ?_ (Qk _) ?_
    ·(refine Q7 rfl ?_ ?_ ?_ ?_<;>(try simp only[go_sem,eA,hb])<;>(try simp))
    .intro j hj
     simp only[go_sem];refine QI (fun YS=>?_) (fun Wt=>?_)
     .have Y2:j<hi.length:=by omega
      have YI:QM cF hi j=cF hi[j]:=Q8 Y2;have hg:=h2 _ (Qh Y2);have Uc:=GM j Y2;have Rp:=GL j;have o1:=zc5 hf hn (by omega) v;have o3:=zc5 hg hn (by omega) v;have lx:=hf.lco v;have ly:=hg.lco v;have o2:=zbO (coM l.1 v) (by omega);have s1:=hf.sc ly;have s2:=hg.sc (c:=-(coM l.1 v)) (D:=C) (by rw[Zs];exact lx);have o4:=zeS hf hn (by omega) (c:=coM hi[j].1 v) (by omega);have o5:=zeS hg hn (by omega) (c:=-(coM l.1 v)) (by rw[Zs];omega);have s3:Fv n (2*C+1) (K+C+1) (QP (scF l (coM hi[j].1 v)) (scF hi[j] (-(coM l.1 v)))):=s1.add s2 (by omega) (by omega);have o6:=ze7 s1 s2 hn (by omega);have a1:=zey (-(coM l.1 v)) 1;have a2:=zey (coM hi[j].1 v) 1;have a3:=ZX (-(coM l.1 v)-1) (coM hi[j].1 v-1);have a4:=Zs (coM l.1 v);have o7:=zep (-(coM l.1 v)) 1 (by omega) (by omega);have o8:=zep (coM hi[j].1 v) 1 (by omega) (by omega);have o9:=zdJ (-(coM l.1 v)-1) (coM hi[j].1 v-1) (by omega) (by omega);have o10:=zeR ((-(coM l.1 v)-1)*(coM hi[j].1 v-1)) (by omega);have s4:Fv n 0 (2*C+4) (Ze ((-(coM l.1 v)-1)*(coM hi[j].1 v-1))):=Fv.const (by omega);have o11:=ze7 s3 s4 hn (by omega);clear s1 s2 s3 s4 a1 a2 a3 a4;have Vj:sh1 d v l hi[j]=if d=true then QP (QP (scF l (coM hi[j].1 v)) (scF hi[j] (-(coM l.1 v)))) (Ze ((-(coM l.1 v)-1)*(coM hi[j].1 v-1)))else QP (scF l (coM hi[j].1 v)) (scF hi[j] (-(coM l.1 v))):=rfl
      generalize sh1 d v l hi[j]=sh at *
      generalize coM l.1 v=x at *
      generalize coM hi[j].1 v=y at *
      generalize hi[j]=h at *
      generalize (-x-1)*(y-1)=z at *
      generalize QP (scF l y) (scF h (-x))=c0 at *
      generalize QP c0 (Ze z)=c1 at *
      generalize scF l y=g1 at *
      generalize scF h (-x)=g2 at *
      generalize Ze z=g3 at *
      simp only[go_sem,YI,YS]
      (repeat(refine Qg (by omega) ?_))
      ((repeat(refine Q4 0 rfl ?_;simp only[go_sem]));refine Q3 (o1) rfl ?_;simp only[go_sem];(repeat(refine Q4 0 rfl ?_;simp only[go_sem]));refine Q3 (o2) rfl ?_;simp only[go_sem];(repeat(refine Q4 0 rfl ?_;simp only[go_sem]));refine Q3 (o3) rfl ?_;simp only[go_sem];(repeat(refine Q4 0 rfl ?_;simp only[go_sem]));refine Q3 (o4) rfl ?_;simp only[go_sem];(repeat(refine Q4 0 rfl ?_;simp only[go_sem]));refine Q3 (o5) rfl ?_;simp only[go_sem];(repeat(refine Q4 0 rfl ?_;simp only[go_sem]));refine Q3 (o6) rfl ?_;simp only[go_sem];(repeat(refine Q4 0 rfl ?_;simp only[go_sem])));cases d with
      |false =>
       have Vj:sh=c0:=Vj;rw[Vj]at Uc;simp only[go_sem];refine ZC (sz:=3) (bytes:=56) (by simp only[go_sem,QV]<;>decide) ZB (A j) [c0] (b:=1000) (by simp only[go_sem]<;>rfl) (by simp only[go_sem]<;>rfl) (by simp only[go_sem]<;>rfl) rfl (by simp) (by simp only[Qe,Qi]at *;omega) (by decide) ?_;simp only[go_sem];refine⟨j+1,Y2,(by show hi.length-(j+1)<hi.length-j;omega),?_⟩
       (refine Q7 rfl ?_ ?_ ?_ ?_<;>(try simp only[go_sem,Uc,eA,hb,Q6 (n:=(j:Int)+1) (by omega) (by omega)])<;>(try simp))
      |true =>
       have Vj:sh=c1:=Vj;rw[Vj]at Uc;simp only[go_sem];((repeat(refine Q4 0 rfl ?_;simp only[go_sem]));refine Q3 (w1) rfl ?_;simp only[go_sem];(repeat(refine Q4 0 rfl ?_;simp only[go_sem]));refine Q3 (o7) rfl ?_;simp only[go_sem];(repeat(refine Q4 0 rfl ?_;simp only[go_sem]));refine Q3 (w1) rfl ?_;simp only[go_sem];(repeat(refine Q4 0 rfl ?_;simp only[go_sem]));refine Q3 (o8) rfl ?_;simp only[go_sem];(repeat(refine Q4 0 rfl ?_;simp only[go_sem]));refine Q3 (o9) rfl ?_;simp only[go_sem];(repeat(refine Q4 0 rfl ?_;simp only[go_sem]));refine Q3 (o10) rfl ?_;simp only[go_sem];(repeat(refine Q4 0 rfl ?_;simp only[go_sem]));refine Q3 (o11) rfl ?_;simp only[go_sem];(repeat(refine Q4 0 rfl ?_;simp only[go_sem])));refine ZC (sz:=3) (bytes:=56) (by simp only[go_sem,QV]<;>decide) ZB (A j) [c1] (b:=1000) (by simp only[go_sem]<;>rfl) (by simp only[go_sem]<;>rfl) (by simp only[go_sem]<;>rfl) rfl (by simp) (by simp only[Qe,Qi]at *;omega) (by decide) ?_;simp only[go_sem];refine⟨j+1,Y2,(by show hi.length-(j+1)<hi.length-j;omega),?_⟩
       (refine Q7 rfl ?_ ?_ ?_ ?_<;>(try simp only[go_sem,Uc,eA,hb,Q6 (n:=(j:Int)+1) (by omega) (by omega)])<;>(try simp))
     .obtain rfl:j=hi.length:=by omega
      rw[GK];simp only[go_sem];refine⟨i+1,Yv,(by show lo.length-(i+1)<lo.length-i;omega),?_⟩
      (refine Q7 rfl ?_ ?_ ?_ ?_<;>(try simp only[go_sem,eA,hb,Q6 (n:=(i:Int)+1) (by omega) (by omega)])<;>(try simp))
   .obtain rfl:i=lo.length:=by omega
    rw[show shI d v lo hi re lo.length=shV d v lo hi re by unfold shI shV;rw[Q1]];simp only[go_sem];exact zlE ZB (by simp only[go_sem])
abbrev xV(n:Nat)(p:Nat->Int):QD:=upd noH PIN (some (Q5 cJ (fnG n p)))
section
variable {n:Nat} {p q:Nat->Int}
theorem zjv(b:Nat)(h:b<PIN):xV n p b=none:=by
 show(if b=PIN then _ else none)=none;rw[Qb (by omega)]
theorem zqS(b:Nat):xV n p b=none↔xV n q b=none:=by
 show(if b=PIN then some _ else none)=none↔(if b=PIN then some _ else none)=none;split<;>simp
theorem zjL(b:Nat)(cs:List Go.Abs.C)(h:xV n p b=some cs):∀ c∈cs,inC (xV n p) c:=by
 have h:(if b=PIN then some (Q5 cJ (fnG n p))else none)=some cs:=h;split at h
 .cases h
  intro c hc;unfold Q5 at hc;obtain⟨t,_,rfl⟩:=Qp.1 hc;trivial
 .cases h
theorem xV_p{k:Nat}:inA (xV n p) (.one (.vec PIN 2 0 k)):=by
 show(if PIN=PIN then some _ else none)≠none;simp
theorem zzi{F:FuncId}{ys args:List AV}{H:QD}{r:AV}(d:Nat)(h:Zf prog F args (xV n p) r (xV n p))(YY:ys=args.map (thA (fun _=>d)))
  (YB:∀ x∈args,inA (xV n p) x) (hH:H d=some (Q5 cJ (fnG n p))):RdC prog F ys H (thA (fun _=>d) r):=by
 subst YY;have hx:∀ {b:Nat},xV n p b≠none->b=PIN:=fun {b} h=>by
  by_cases e:b=PIN
  .exact e
  .exact(h (show(if b=PIN then some (Q5 cJ (fnG n p))else none)=none from Qb e)).elim
 have hs:∀ {b:Nat} {cs:List Go.Abs.C},xV n p b=some cs->cs=Q5 cJ (fnG n p):=fun {b cs} h=>by
  have h:(if b=PIN then some (Q5 cJ (fnG n p))else none)=some cs:=h;split at h
  .cases h;rfl
  .cases h
 refine zeC (fun _=>d) h zjv (fun b b' h h' _=>(hx h).trans (hx h').symm) zjL YB fun b cs hb=>?_
 rw[hs hb];have e:(Q5 cJ (fnG n p)).map (thC fun _=>d)=Q5 cJ (fnG n p):=by unfold Q5;rw[wac];rfl
 obtain rfl:=hx (b:=b) (by rw[hb];simp);rw[e];exact hH
theorem zw8{m:Nat}{F:FuncId}{ys args:List AV}{σ:St}{K:AV->St->Prop}{r:AV}(d:Nat)(hm:m=1\/m=2)(h:Zf prog F args (xV n p) r (xV n q))(YY:ys=args.map (thA (fun _=>d)))
  (YB:∀ x∈args,inA (xV n p) x) (hH:σ.H d=some (Q5 cJ (fnG n p))) (hK:K (thA (fun _=>d) r) (σ.withH (upd σ.H d (some (Q5 cJ (fnG n q)))))):ZK prog m F ys σ K:=by
 have hx:∀ {p:Nat->Int} {b:Nat},xV n p b≠none->b=PIN:=fun {p b} h=>by
  by_cases e:b=PIN
  .exact e
  .exact(h (show(if b=PIN then some (Q5 cJ (fnG n p))else none)=none from Qb e)).elim
 have hs:∀ {p:Nat->Int} {b:Nat} {cs:List Go.Abs.C},xV n p b=some cs->cs=Q5 cJ (fnG n p)/\b=PIN:=fun {p b cs} h=>by
  refine⟨?_,hx (by rw[h];simp)⟩;have h:(if b=PIN then some (Q5 cJ (fnG n p))else none)=some cs:=h;split at h
  .cases h;rfl
  .cases h
 have e:∀ p:Nat->Int,(Q5 cJ (fnG n p)).map (thC fun _=>d)=Q5 cJ (fnG n p):=fun p=>by unfold Q5;rw[wac];rfl
 refine zi0 (fun _=>d) hm h YY zjv (fun b=>zqS b) (fun b b' h h' _=>(hx h).trans (hx h').symm) zjL YB (fun b cs hb=>?_) (fun b cs hb=>?_) (fun b hb=>?_) hK
 .obtain⟨rfl,rfl⟩:=hs hb
  rw[e];exact hH
 .obtain⟨rfl,rfl⟩:=hs hb
  rw[e];show(if d=d then _ else _)=_;rw[Qc rfl]
 .have:b≠d:=fun e2=>hb PIN (by show(if PIN=PIN then some _ else none)≠none;simp) e2.symm
  show(if b=d then _ else _)=_;rw[Qb this]
end
theorem zyu(f:Fm)(p:Nat->Int){n C K B:Nat}(hn:n<=1000000)(hC:max C K<=4000000000)(hB:B<=80000000000)(hf:Fv n C K f)(UZ:∀ v,v<n->lN (p v)<=B) :
  Zf prog 88 [.agg ((cF f).map .t),.one (.vec PIN 2 0 n)] (xV n p) (.agg ((cJ (atF f p)).map .t)) (xV n p):=by
 refine zaq QC call88 func88 rfl ntmps88 results88 (by simp) (by decide) ?_ ?_ ?_ ?_ ?_
 .exact zjv
 .exact fun b=>wbn
 .exact zjL
 .intro c hc
  obtain⟨t,_,rfl⟩:=Qp.1 hc;trivial
 .have YJ:=hf.bd (L:=max C K) hn (wbK _ _) (wbG _ _)
  have h1:=zuV f hf.wf (YJ.mono (by omega) (by omega));have Y0:=YJ.1;have h2:=zhm (decide (f.2<0)) (dig f.2.natAbs) (by have:=YJ.2.2;unfold lN at this;omega);rw[Z2]at h2;obtain⟨p',Wi⟩:∃ p':Nat->Int,p'=fun v=>if v<n then p v else 0:=⟨_,rfl⟩
  have Lc:∀ v,v<n->p' v=p v:=fun v hv=>by rw[Wi];exact Qc hv
  have G8:∀ v,lN (p' v)<=B:=fun v=>by
   rw[Wi];show lN (if v<n then p v else 0)<=B;split
   .exact UZ v ‹_›
   .rw[ZI];omega
  have JA:=fun i=>zhX YJ G8 i
  rw[<-zgk (f:=f) (p:=p') (q:=p) fun m hm=>Lc _ (hf.lt m hm)];unfold atF;simp only[go_sem,PIN];refine Q3 h1 rfl ?_;simp only[go_sem,PIN];refine Q3 h2 rfl ?_;simp only[go_sem,PIN];refine QK (fun i:Nat=>stL 38 [(1,.one (.vec 1000000 2 0 n)),(4,.one (.ptr 4 0)),(5,.one (.ptr 5 0)),(15,.one (.t (eL cMn f.1))),(16,litI .i64 f.1.length),(17,litI .i64 i)]
    [(1000000,Q5 cJ (fnG n p)),(4,[.t (.lit (.bool false)),.t (.seq (some true) [])]),(5,[.t (.lit (.bool (decide (f.2+atM (f.1.take i) p'<0)))),.t (eN (dig (f.2+atM (f.1.take i) p').natAbs))])])
   (fun i=>i<=f.1.length) (fun i=>f.1.length-i) 0 ?_ (Qk _) ?_
  .rw[wao,show f.2+atM [] p'=f.2 from wa9 _]
   (refine Q7 rfl ?_ ?_ ?_ ?_<;>(try simp only[go_sem,QH,PIN])<;>(try simp))
  .intro i hi
   simp only[go_sem];refine QI (fun Yw=>?_) (fun YG=>?_)
   .have Yv:i<f.1.length:=by omega
    have Y1:QM cMn f.1 i=cMn f.1[i]:=Q8 Yv;have hm:=YJ.2.1 _ (Qh Yv);have RZ:=hf.lt _ (Qh Yv);have Uw:=JA i;have Yx:f.2+atM (f.1.take (i+1)) p'=f.2+atM (f.1.take i) p'+f.1[i].2*p' f.1[i].1:=by rw[Zd Yv,zla,wdP]
    generalize f.1[i]=m at *
    generalize f.2+atM (f.1.take i) p'=acc at *
    simp only[go_sem,Y1,Yw];refine⟨by omega,?_⟩;have c':((m.1:Int)<(n:Int))=True:=Qf (by omega);have Wm:(Q5 cJ (fnG n p)).drop (m.1*2)=(cJ (p m.1)).map .t++Q5 cJ ((fnG n p).drop (m.1+1)):=Z1 Ye RZ;have Ro:=Lc _ RZ;have hq:=UZ _ RZ;rw[Ro]at Yx;have e1:=zdJ m.2 (p m.1) (by omega) (by omega);have l1:=ZX m.2 (p m.1);have e2:=zc7 acc (m.2*p m.1) (by omega) (by omega);generalize p m.1=q at *
    simp only[go_sem,c'];refine Q4 0 rfl ?_;simp only[go_sem,Wm,c',cJ];refine⟨by omega,?_⟩;refine Q3 e1 rfl ?_;simp only[go_sem];refine Q3 e2 rfl ?_;simp only[go_sem];refine⟨i+1,Yv,(by show f.1.length-(i+1)<f.1.length-i;omega),?_⟩
    (refine Q7 rfl ?_ ?_ ?_ ?_<;>(try simp only[go_sem,Yx,QH,Q6 (n:=(i:Int)+1) (by omega) (by omega)])<;>(try simp))
   .obtain rfl:i=f.1.length:=by omega
    rw[Q1];simp only[go_sem];refine⟨.inr rfl,(fun x hx=>by obtain rfl:=Qr.1 hx;simp only[go_sem]),rfl,fun b hb=>?_⟩;have hb:1000000<=b:=hb;show(if b=4 then some _ else if b=1000000 then some _ else if b=4 then some _ else if b=5 then some _ else none)=if b=1000000 then some _ else none
    rw[Qb (by omega)];by_cases e:b=1000000
    .rw[Qc e,Qc e]
    .rw[Qb e,Qb (by omega),Qb (by omega),Qb e]
theorem zlW(f:Fm)(p:Nat->Int)(d:Nat){n C K B:Nat}(hn:n<=1000000)(hC:max C K<=4000000000)(hB:B<=80000000000)(hf:Fv n C K f)(UZ:∀ v,v<n->lN (p v)<=B){H:QD}(hH:H d=some (Q5 cJ (fnG n p))) :
  RdC prog 88 [.agg ((cF f).map .t),.one (.vec d 2 0 n)] H (.agg ((cJ (atF f p)).map .t)) :=
 zzi d (zyu f p hn hC hB hf UZ) rfl (Q2.2 ⟨(fun c hc=>by obtain⟨t,_,rfl⟩:=Qp.1 hc;trivial),Q2.2 ⟨xV_p,fun x hx=>by cases hx⟩⟩) hH
theorem WeakL.refl:∀ l:List Go.Abs.C,WeakL l l
 |[]=>.nil
 |_::l=>.cons .refl (WeakL.refl l)
theorem WeakL.app{a b b':List Go.Abs.C}(h:WeakL b b'):WeakL (a++b) (a++b'):=by
 induction a with
 |nil=>exact h
 |cons x a ih=>exact .cons .refl ih
theorem cJ_0:(cJ 0).map Go.Abs.C.t=[.t (.lit (.bool false)),.t (eN [])]:=by
 show[Abs.C.t _,Abs.C.t (eN (dig (0:Int).natAbs))]=_;rw[show(0:Int).natAbs=0 from rfl,Zi];rfl
theorem zog:WeakL [.t (.lit (.bool false)),.t (.seq (some true) [])] ((cJ 0).map Go.Abs.C.t):=by
 rw[cJ_0];exact .cons .refl (.cons .seq .nil)
theorem ztv{n v:Nat}{p:Nat->Int}(hv:v<n):WeakL ((Q5 cJ (fnG n p)).take (v*2)++Abs.C.t (.lit (.bool false))::Abs.C.t (.seq (some true) [])::(Q5 cJ (fnG n p)).drop (v*2+2)) (Q5 cJ (fnG n (Zq p v 0))):=by
 have h:=zbD hv (g:=p) (q:=0);have e:(fun i=>if i=v then 0 else p i)=Zq p v 0:=rfl;rw[e]at h;rw[<-h,show(0:Int).natAbs=0 from rfl,Zi];exact WeakL.app (.cons .refl (.cons .seq (WeakL.refl _)))
def okB(fr to:Option Int):Bool:=match fr,to with
 |some f,some t=>decide (f<=t)
 |_,_=>true
theorem zpw{fr to:Option Int}:okB fr to=true↔okV fr to:=by
 unfold okB okV;cases fr with
 |none=>simp
 |some f=>cases to with
  |none=>simp
  |some t=>simp
theorem ztw(p:Nat->Int)(v:Nat)(s t:Int):Zq (Zq p v s) v t=Zq p v t:=by
 funext i;unfold Zq;split<;>rfl
theorem zuZ(v:Nat)(lo hi re:List Fm)(p:Nat->Int){n C K B:Nat}(hn:n<=1000000)(hC:max C K<=4000000000)(hB:B<=4000000000)(hv:v<n)(Kf:lo.length<100000000)(VX:hi.length<100000000)(h1:∀ f∈lo,Fv n C K f)(h2:∀ f∈hi,Fv n C K f)(hp:∀ v,v<n->lN (p v)<=B) :
  Zf prog 98 [.agg ((sB lo hi re).map .t),litI .i64 v,.one (.vec PIN 2 0 n)] (xV n p) (QO (okB (frL v p lo) (toL v p hi))) (xV n (Zq p v (zh2 (frL v p lo) (toL v p hi)))):=by
 refine zaq QC call98 func98 rfl ntmps98 results98 (by simp) (by decide) ?_ ?_ ?_ ?_ ?_
 .exact zjv
 .exact fun b=>zqS b
 .exact zjL
 .trivial
 .obtain⟨X0,Wf⟩:∃ X0,X0=Zq p v 0:=⟨_,rfl⟩
  have Ry:∀ u,u<n->lN (X0 u)<=B:=fun u hu=>by
   rw[Wf];show lN (if u=v then 0 else p u)<=B;split
   .rw[ZI];omega
   .exact hp u hu
  have XT:((0:Int)<=(v:Int))=True:=Qf (by omega);have XC:((v:Int)<(n:Int))=True:=Qf (by omega);have YW:=zaB (n:=n) (g:=p);have Vg:∀ f,Fv n C K f->lN (atF f X0)<=max C K+B+n:=fun f hf=>by
   have YJ:=hf.bd (L:=max C K) hn (wbK _ _) (wbG _ _);have h:=zhX YJ (p:=fun u=>if u<n then X0 u else 0) (K:=B) (fun u=>by
    show lN (if u<n then X0 u else 0)<=B;split
    .exact Ry u ‹_›
    .rw[ZI];omega) f.1.length
   rw[Q1]at h;have e:atF f (fun u=>if u<n then X0 u else 0)=atF f X0:=zgk fun m hm=>Qc (hf.lt m hm)
   have h3:=YJ.1;rw[<-e];show lN (f.2+atM f.1 _)<=_;omega
  simp only[go_sem,PIN,XT,XC,YW]
  (repeat(refine Qg (by omega) ?_))
  have Xu:∀ l:List Fm,(∀ f∈l,Fv n C K f)->∀ f∈l,lN (frA v p f)<=max C K+B+n+1:=fun l hl f hf=>by
   have h3:=zas (-(atF f X0)) (-(coM f.1 v));have h4:=Vg f (hl f hf);rw[Zs]at h3;unfold frA;rw[Zs,<-Wf];omega
  have Uy:∀ l:List Fm,(∀ f∈l,Fv n C K f)->∀ f∈l,lN (toA v p f)<=max C K+B+n+1:=fun l hl f hf=>by
   have h3:=zas (-(atF f X0)) (coM f.1 v);have h4:=Vg f (hl f hf);rw[Zs]at h3;unfold toA;rw[<-Wf];omega
  have Uh:∀ i,lN ((frL v p (lo.take i)).getD 0)<=max C K+B+n+1:=fun i=>by
   have:=zel v p (lo.take i);cases h:frL v p (lo.take i)with
   |none=>show lN 0<=_;rw[ZI];omega
   |some m =>
    rw[h]at this;obtain⟨⟨a,ha,e⟩,_⟩:=this;show lN m<=_;rw[e];exact Xu lo h1 a (waQ ha)
  have Ui:∀ i,lN ((toL v p (hi.take i)).getD 0)<=max C K+B+n+1:=fun i=>by
   have:=zem v p (hi.take i);cases h:toL v p (hi.take i)with
   |none=>show lN 0<=_;rw[ZI];omega
   |some m =>
    rw[h]at this;obtain⟨⟨a,ha,e⟩,_⟩:=this;show lN m<=_;rw[e];exact Uy hi h2 a (waQ ha)
  have Xu:∀ l:List Fm,(∀ f∈l,Fv n C K f)->∀ f∈l,lN (frA v p f)<=max C K+B+n+1:=fun l hl f hf=>by
   have h3:=zas (-(atF f X0)) (-(coM f.1 v));have h4:=Vg f (hl f hf);rw[Zs]at h3;unfold frA;rw[Zs,<-Wf];omega
  have Uy:∀ l:List Fm,(∀ f∈l,Fv n C K f)->∀ f∈l,lN (toA v p f)<=max C K+B+n+1:=fun l hl f hf=>by
   have h3:=zas (-(atF f X0)) (coM f.1 v);have h4:=Vg f (hl f hf);rw[Zs]at h3;unfold toA;rw[<-Wf];omega
  have Uh:∀ i,lN ((frL v p (lo.take i)).getD 0)<=max C K+B+n+1:=fun i=>by
   have:=zel v p (lo.take i);cases h:frL v p (lo.take i)with
   |none=>show lN 0<=_;rw[ZI];omega
   |some m =>
    rw[h]at this;obtain⟨⟨a,ha,e⟩,_⟩:=this;show lN m<=_;rw[e];exact Xu lo h1 a (waQ ha)
  have Ui:∀ i,lN ((toL v p (hi.take i)).getD 0)<=max C K+B+n+1:=fun i=>by
   have:=zem v p (hi.take i);cases h:toL v p (hi.take i)with
   |none=>show lN 0<=_;rw[ZI];omega
   |some m =>
    rw[h]at this;obtain⟨⟨a,ha,e⟩,_⟩:=this;show lN m<=_;rw[e];exact Uy hi h2 a (waQ ha)
  have Xu:∀ l:List Fm,(∀ f∈l,Fv n C K f)->∀ f∈l,lN (frA v p f)<=max C K+B+n+1:=fun l hl f hf=>by
   have h3:=zas (-(atF f X0)) (-(coM f.1 v));have h4:=Vg f (hl f hf);rw[Zs]at h3;unfold frA;rw[Zs,<-Wf];omega
  have Uy:∀ l:List Fm,(∀ f∈l,Fv n C K f)->∀ f∈l,lN (toA v p f)<=max C K+B+n+1:=fun l hl f hf=>by
   have h3:=zas (-(atF f X0)) (coM f.1 v);have h4:=Vg f (hl f hf);rw[Zs]at h3;unfold toA;rw[<-Wf];omega
  have Uh:∀ i,lN ((frL v p (lo.take i)).getD 0)<=max C K+B+n+1:=fun i=>by
   have:=zel v p (lo.take i);cases h:frL v p (lo.take i)with
   |none=>show lN 0<=_;rw[ZI];omega
   |some m =>
    rw[h]at this;obtain⟨⟨a,ha,e⟩,_⟩:=this;show lN m<=_;rw[e];exact Xu lo h1 a (waQ ha)
  have Ui:∀ i,lN ((toL v p (hi.take i)).getD 0)<=max C K+B+n+1:=fun i=>by
   have:=zem v p (hi.take i);cases h:toL v p (hi.take i)with
   |none=>show lN 0<=_;rw[ZI];omega
   |some m =>
    rw[h]at this;obtain⟨⟨a,ha,e⟩,_⟩:=this;show lN m<=_;rw[e];exact Uy hi h2 a (waQ ha)
  have Xu:∀ l:List Fm,(∀ f∈l,Fv n C K f)->∀ f∈l,lN (frA v p f)<=max C K+B+n+1:=fun l hl f hf=>by
   have h3:=zas (-(atF f X0)) (-(coM f.1 v));have h4:=Vg f (hl f hf);rw[Zs]at h3;unfold frA;rw[Zs,<-Wf];omega
  have Uy:∀ l:List Fm,(∀ f∈l,Fv n C K f)->∀ f∈l,lN (toA v p f)<=max C K+B+n+1:=fun l hl f hf=>by
   have h3:=zas (-(atF f X0)) (coM f.1 v);have h4:=Vg f (hl f hf);rw[Zs]at h3;unfold toA;rw[<-Wf];omega
  have Uh:∀ i,lN ((frL v p (lo.take i)).getD 0)<=max C K+B+n+1:=fun i=>by
   have:=zel v p (lo.take i);cases h:frL v p (lo.take i)with
   |none=>show lN 0<=_;rw[ZI];omega
   |some m =>
    rw[h]at this;obtain⟨⟨a,ha,e⟩,_⟩:=this;show lN m<=_;rw[e];exact Xu lo h1 a (waQ ha)
  have Ui:∀ i,lN ((toL v p (hi.take i)).getD 0)<=max C K+B+n+1:=fun i=>by
   have:=zem v p (hi.take i);cases h:toL v p (hi.take i)with
   |none=>show lN 0<=_;rw[ZI];omega
   |some m =>
    rw[h]at this;obtain⟨⟨a,ha,e⟩,_⟩:=this;show lN m<=_;rw[e];exact Uy hi h2 a (waQ ha)
  have Xu:∀ l:List Fm,(∀ f∈l,Fv n C K f)->∀ f∈l,lN (frA v p f)<=max C K+B+n+1:=fun l hl f hf=>by
   have h3:=zas (-(atF f X0)) (-(coM f.1 v));have h4:=Vg f (hl f hf);rw[Zs]at h3;unfold frA;rw[Zs,<-Wf];omega
  have Uy:∀ l:List Fm,(∀ f∈l,Fv n C K f)->∀ f∈l,lN (toA v p f)<=max C K+B+n+1:=fun l hl f hf=>by
   have h3:=zas (-(atF f X0)) (coM f.1 v);have h4:=Vg f (hl f hf);rw[Zs]at h3;unfold toA;rw[<-Wf];omega
  have Uh:∀ i,lN ((frL v p (lo.take i)).getD 0)<=max C K+B+n+1:=fun i=>by
   have:=zel v p (lo.take i);cases h:frL v p (lo.take i)with
   |none=>show lN 0<=_;rw[ZI];omega
   |some m =>
    rw[h]at this;obtain⟨⟨a,ha,e⟩,_⟩:=this;show lN m<=_;rw[e];exact Xu lo h1 a (waQ ha)
  have Ui:∀ i,lN ((toL v p (hi.take i)).getD 0)<=max C K+B+n+1:=fun i=>by
   have:=zem v p (hi.take i);cases h:toL v p (hi.take i)with
   |none=>show lN 0<=_;rw[ZI];omega
   |some m =>
    rw[h]at this;obtain⟨⟨a,ha,e⟩,_⟩:=this;show lN m<=_;rw[e];exact Uy hi h2 a (waQ ha)
  refine QK (fun i:Nat=>stL 107 [(1,litI .i64 v),(2,.one (.vec 1000000 2 0 n)),(3,.one (.ptr 3 0)),(7,QO (frL v p (lo.take i)).isSome),(8,QO false),(9,.one (.ptr 9 0)),(10,.one (.ptr 10 0)),(25,.one (.t (eL cF lo))),(26,litI .i64 lo.length),(27,litI .i64 i)]
    [(1000000,Q5 cJ (fnG n X0)),(3,(sB lo hi re).map .t),(9,(cJ ((frL v p (lo.take i)).getD 0)).map .t),(10,(cJ 0).map .t)]) (fun i=>i<=lo.length) (fun i=>lo.length-i) 0 ?_ (Qk _) ?_
  .refine GStep.trans (zar 1000000 (by simp only[go_sem,PIN]<;>rfl) (ztv hv)) ?_
   refine GStep.trans (zar 9 (by simp only[go_sem,PIN]<;>rfl) zog) ?_;refine GStep.trans (zar 10 (by simp only[go_sem,PIN]<;>rfl) zog) ?_;rw[wao,<-Wf,show frL v p []=none from rfl]
   (refine Q7 rfl ?_ ?_ ?_ ?_<;>(try simp only[go_sem,QH,PIN,eA])<;>(try simp))
  .intro i Y6
   simp only[go_sem];refine QI (fun Yw=>?_) (fun YG=>?_)
   .have Yv:i<lo.length:=by omega
    have Y1:QM cF lo i=cF lo[i]:=Q8 Yv;have hf:=h1 _ (Qh Yv);have hA:=Vg _ hf;have o1:=fun {H:QD}=>zlW lo[i] X0 1000000 hn hC (by omega) hf Ry (H:=H)
    have o2:=zbO (atF lo[i] X0) (by omega);have o3:=zc5 hf hn (by omega) v;have lx:=hf.lco v;have o4:=zbO (coM lo[i].1 v) (by omega);have n1:=Zs (atF lo[i] X0);have n2:=Zs (coM lo[i].1 v);have o5:=zeh (-(atF lo[i] X0)) (-(coM lo[i].1 v)) (by omega) (by omega);have n3:=zas (-(atF lo[i] X0)) (-(coM lo[i].1 v));have o6:=zbO (Int.fdiv (-(atF lo[i] X0)) (-(coM lo[i].1 v))) (by omega);have efr : -(Int.fdiv (-(atF lo[i] X0)) (-(coM lo[i].1 v)))=frA v p lo[i]:=by unfold frA;rw[Wf]
    have lfr:=Xu lo h1 _ (Qh Yv);have Gh:=Uh i;have Yx:frL v p (lo.take (i+1))=frS v p (frL v p (lo.take i)) lo[i]:=by rw[Zd Yv,zvl]
    rw[efr]at o6;obtain⟨fo2,JT⟩:∃ fo2,fo2=frL v p (lo.take (i+1)):=⟨_,rfl⟩
    rw[<-JT]at Yx;generalize frL v p (lo.take i)=fo at *
    unfold frS at Yx;generalize frA v p lo[i]=y at *
    generalize Int.fmod (-(atF lo[i] X0)) (-(coM lo[i].1 v))=fm at *
    generalize Int.fdiv (-(atF lo[i] X0)) (-(coM lo[i].1 v))=q at *
    generalize -(coM lo[i].1 v)=nc at *
    generalize coM lo[i].1 v=c at *
    generalize -(atF lo[i] X0)=nA at *
    generalize atF lo[i] X0=A at *
    generalize lo[i]=l at *
    clear hA Xu Uy Uh Ui Vg efr;simp only[go_sem,Y1,Yw]
    (repeat(refine Qg (by omega) ?_))
    refine Q4 3 rfl ?_;simp only[go_sem];refine zhk (o1 (by simp only[go_sem]<;>rfl)) ?_;simp only[go_sem];refine Q3 o2 rfl ?_;simp only[go_sem];refine Q3 o3 rfl ?_;simp only[go_sem];refine Q3 o4 rfl ?_;simp only[go_sem];refine Q3 o5 rfl ?_;simp only[go_sem];refine Q3 o6 rfl ?_;cases fo with
    |none =>
     have Yx:fo2=some y:=Yx;simp only[go_sem];refine⟨i+1,Yv,(by show lo.length-(i+1)<lo.length-i;omega),?_⟩;have X8:=Yx;rw[JT]at X8
     (refine Q7 rfl ?_ ?_ ?_ ?_<;>(try simp only[go_sem,X8,QH,eA,Q6 (n:=(i:Int)+1) (by omega) (by omega)])<;>(try simp))
    |some m =>
     have Yx:fo2=if m<y then some y else some m:=Yx
     have Gh:lN m<=_:=Gh;have o7:=zf4 y m (by omega) (by omega);by_cases cm:m<y
     .rw[Qc cm]at Yx
      rw[zi6 cm]at o7;simp only[go_sem];refine Q3 o7 rfl ?_;simp only[go_sem];refine⟨i+1,Yv,(by show lo.length-(i+1)<lo.length-i;omega),?_⟩;have X8:=Yx;rw[JT]at X8
      (refine Q7 rfl ?_ ?_ ?_ ?_<;>(try simp only[go_sem,X8,QH,eA,Q6 (n:=(i:Int)+1) (by omega) (by omega)])<;>(try simp))
     .rw[Qb cm]at Yx
      have hc:=zi5 (x:=y) (y:=m) (by omega);have Ja:(0<QY y m)=False:=Ql (by omega);simp only[go_sem];refine Q3 o7 rfl ?_;simp only[go_sem,Ja];refine⟨i+1,Yv,(by show lo.length-(i+1)<lo.length-i;omega),?_⟩;have X8:=Yx;rw[JT]at X8
      (refine Q7 rfl ?_ ?_ ?_ ?_<;>(try simp only[go_sem,X8,QH,eA,Q6 (n:=(i:Int)+1) (by omega) (by omega)])<;>(try simp))
   .obtain rfl:i=lo.length:=by omega
    rw[Q1];have Gh:=Uh lo.length;rw[Q1]at Gh;generalize frL v p lo=fo at *
    simp only[go_sem];refine QK (fun i:Nat=>stL 107 [(1,litI .i64 v),(2,.one (.vec 1000000 2 0 n)),(3,.one (.ptr 3 0)),(7,QO fo.isSome),(8,QO (toL v p (hi.take i)).isSome),(9,.one (.ptr 9 0)),(10,.one (.ptr 10 0)),(56,.one (.t (eL cF hi))),(57,litI .i64 hi.length),(58,litI .i64 i)]
      [(1000000,Q5 cJ (fnG n X0)),(3,(sB lo hi re).map .t),(9,(cJ (fo.getD 0)).map .t),(10,(cJ ((toL v p (hi.take i)).getD 0)).map .t)]) (fun i=>i<=hi.length) (fun i=>hi.length-i) 0 ?_ (Qk _) ?_
    .rw[wao,show toL v p []=none from rfl]
     (refine Q7 rfl ?_ ?_ ?_ ?_<;>(try simp only[go_sem,QH,eA])<;>(try simp))
    .intro i Y6
     simp only[go_sem];refine QI (fun Yw=>?_) (fun YG=>?_)
     .have Yv:i<hi.length:=by omega
      have Y1:QM cF hi i=cF hi[i]:=Q8 Yv;have hf:=h2 _ (Qh Yv);have hA:=Vg _ hf;have o1:=fun {H:QD}=>zlW hi[i] X0 1000000 hn hC (by omega) hf Ry (H:=H)
      have o2:=zbO (atF hi[i] X0) (by omega);have o3:=zc5 hf hn (by omega) v;have lx:=hf.lco v;have n1:=Zs (atF hi[i] X0);have o5:=zeh (-(atF hi[i] X0)) (coM hi[i].1 v) (by omega) (by omega);have efr:Int.fdiv (-(atF hi[i] X0)) (coM hi[i].1 v)=toA v p hi[i]:=by unfold toA;rw[Wf]
      have lfr:=Uy hi h2 _ (Qh Yv);have Km:=Ui i;have Yx:toL v p (hi.take (i+1))=toS v p (toL v p (hi.take i)) hi[i]:=by rw[Zd Yv,zvm]
      rw[efr]at o5;obtain⟨to2,JU⟩:∃ to2,to2=toL v p (hi.take (i+1)):=⟨_,rfl⟩
      rw[<-JU]at Yx;generalize toL v p (hi.take i)=to at *
      unfold toS at Yx;generalize toA v p hi[i]=y at *
      generalize Int.fmod (-(atF hi[i] X0)) (coM hi[i].1 v)=fm at *
      generalize coM hi[i].1 v=c at *
      generalize -(atF hi[i] X0)=nA at *
      generalize atF hi[i] X0=A at *
      generalize hi[i]=l at *
      clear hA Xu Uy Uh Ui Vg efr;simp only[go_sem,Y1,Yw]
      (repeat(refine Qg (by omega) ?_))
      refine Q4 3 rfl ?_;simp only[go_sem];refine zhk (o1 (by simp only[go_sem]<;>rfl)) ?_;simp only[go_sem];refine Q3 o2 rfl ?_;simp only[go_sem];refine Q3 o3 rfl ?_;simp only[go_sem];refine Q3 o5 rfl ?_;cases to with
      |none =>
       have Yx:to2=some y:=Yx;simp only[go_sem];refine⟨i+1,Yv,(by show hi.length-(i+1)<hi.length-i;omega),?_⟩;have X8:=Yx;rw[JU]at X8
       (refine Q7 rfl ?_ ?_ ?_ ?_<;>(try simp only[go_sem,X8,QH,eA,Q6 (n:=(i:Int)+1) (by omega) (by omega)])<;>(try simp))
      |some m =>
       have Yx:to2=if y<m then some y else some m:=Yx
       have Km:lN m<=_:=Km;have o7:=zf4 y m (by omega) (by omega);by_cases cm:y<m
       .rw[Qc cm]at Yx
        rw[zwm cm]at o7;simp only[go_sem];refine Q3 o7 rfl ?_;simp only[go_sem];refine⟨i+1,Yv,(by show hi.length-(i+1)<hi.length-i;omega),?_⟩;have X8:=Yx;rw[JU]at X8
        (refine Q7 rfl ?_ ?_ ?_ ?_<;>(try simp only[go_sem,X8,QH,eA,Q6 (n:=(i:Int)+1) (by omega) (by omega)])<;>(try simp))
       .rw[Qb cm]at Yx
        have Ja:(QY y m<0)=False:=Ql (by unfold QY;rw[Qb cm];split<;>decide);simp only[go_sem];refine Q3 o7 rfl ?_;simp only[go_sem,Ja];refine⟨i+1,Yv,(by show hi.length-(i+1)<hi.length-i;omega),?_⟩;have X8:=Yx;rw[JU]at X8
        (refine Q7 rfl ?_ ?_ ?_ ?_<;>(try simp only[go_sem,X8,QH,eA,Q6 (n:=(i:Int)+1) (by omega) (by omega)])<;>(try simp))
     .obtain rfl:i=hi.length:=by omega
      rw[Q1];have Km:=Ui hi.length;rw[Q1]at Km;generalize toL v p hi=to at *
      have sd:=fun q=>zbD hv (g:=X0) (q:=q)
      have VM:=zaB (n:=n) (g:=X0);have fin:∀ (q:Int),(fun i=>if i=v then q else X0 i)=Zq p v q:=fun q=>by rw[Wf];exact ztw p v 0 q
      clear Xu Uy Uh Ui Vg;have Y5:∀ (H:QD) (q:Int),(∀ b,1000000<=b->H b=if b=1000000 then some (Q5 cJ (fnG n (Zq p v q)))else none)->∀ b,PIN<=b->H b=xV n (Zq p v q) b:=fun H q h b hb=>h b hb
      have sdt:∀ q:Int,(Q5 cJ (fnG n X0)).take (v*2)++Abs.C.t (.lit (.bool (decide (q<0))))::Abs.C.t (eN (dig q.natAbs))::(Q5 cJ (fnG n X0)).drop (v*2+2)=Q5 cJ (fnG n (Zq p v q)):=fun q=>by rw[sd,fin]
      have GX:∀ {b:Nat},1000000<=b->(b=3)=False/\(b=9)=False/\(b=10)=False:=fun {b} h=>⟨Ql (by omega),Ql (by omega),Ql (by omega)⟩
      have FU:∀ {α:Type} {x y z:α} (b:Nat),(if b=1000000 then x else if b=1000000 then y else z)=if b=1000000 then x else z:=fun b=>by split<;>rfl
      have OS:∀ {b:Nat},1000000<=b->(b=12)=False/\(b=17)=False:=fun {b} h=>⟨Ql (by omega),Ql (by omega)⟩
      cases fo with
      |none =>
       cases to with
       |none =>
        simp only[go_sem];refine⟨.inr rfl,(fun x hx=>by obtain rfl:=Qr.1 hx;trivial),rfl,Y5 _ 0 fun b hb=>?_⟩;rw[<-Wf];simp only[go_sem,GX hb]
       |some t =>
        simp only[go_sem,XT,XC,VM,sdt]
        (repeat(refine Qg (by omega) ?_))
        refine⟨.inr rfl,(fun x hx=>by obtain rfl:=Qr.1 hx;trivial),rfl,Y5 _ t fun b hb=>?_⟩;simp only[go_sem,GX hb];exact FU b
      |some f =>
       cases to with
       |none =>
        simp only[go_sem,XT,XC,VM,sdt]
        (repeat(refine Qg (by omega) ?_))
        refine⟨.inr rfl,(fun x hx=>by obtain rfl:=Qr.1 hx;trivial),rfl,Y5 _ f fun b hb=>?_⟩;simp only[go_sem,GX hb];exact FU b
       |some t =>
        have Gh:lN f<=_:=Gh;have Km:lN t<=_:=Km;have o7:=zf4 f t (by omega) (by omega);have e7:decide (QY f t<=0)=decide (f<=t):=wax.2 (by unfold QY;constructor<;>intro h<;>(repeat' split at *)<;>omega);simp only[go_sem,XT,XC,VM,sdt]
        (repeat(refine Qg (by omega) ?_))
        refine Q3 o7 rfl ?_;simp only[go_sem,e7];refine⟨.inr rfl,(fun x hx=>by obtain rfl:=Qr.1 hx;trivial),rfl,Y5 _ f fun b hb=>?_⟩;simp only[go_sem,GX hb];exact FU b
def zdY(l:LL):Int:=match l.1.getLast? with|some m=>m.1|none=>-9223372036854775808
def zbH(n:Int)(l:LL):Prop:=¬IsL l\/n<0\/(l.1≠[]/\n<=zdY l)
instance (n:Int) (l:LL):Decidable (zbH n l):=by unfold zbH;exact inferInstance
def zd7(ls:List LL)(n:Int):Int:=if 60<ls.length\/40<n then 21 else if(∃ l∈ls,zbH n l)\/n<0 then 10 else 0
theorem zfZ{l:List MM}(h:l≠[]):l.getLast? = some (l[l.length-1]'(by have:=wa6.2 h;omega)):=by
 rw[wco,waa]
theorem zn8(ls:List LL)(n:Int)(Ei : -9223372036854775808<=n)(OB:n<9223372036854775808)(hl:ls.length<1000000000)(h:∀ l∈ls,l.1.length<1000000000/\(∀ m∈l.1,m.2.2.length<100000000000/\-9223372036854775808<=m.1/\m.1<9223372036854775808)/\l.2.2.length<100000000000) :
  Q9 prog 30 [.one (eL cL ls),tI .i64 n] (tI .i64 (zd7 ls n)):=by
 refine QJ QC call30 func30 rfl ntmps30 results30 (by simp) (by decide) ?_;unfold zd7;by_cases c1:60<ls.length
 .rw[Qc (.inl c1)]
  have c1':((60:Int)<(ls.length:Int))=True:=Qf (by omega);simp only[go_sem,c1'];try rfl
 .have c1':((60:Int)<(ls.length:Int))=False:=Ql (by omega)
  by_cases c2:40<n
  .rw[Qc (.inr c2)]
   have c2':((40:Int)<n)=True:=Qf c2;simp only[go_sem,c1',c2'];try rfl
  .rw[Qb (by rintro(h|h)<;>contradiction)]
   have c2':((40:Int)<n)=False:=Ql c2;simp only[go_sem,c1',c2'];refine QK (fun i:Nat=>stL 49 [(1,litI .i64 n),(14,.one (.t (eL cL ls))),(15,litI .i64 ls.length),(16,litI .i64 i)] []) (fun i=>i<=ls.length/\∀ l∈ls.take i,¬zbH n l) (fun i=>ls.length-i) 0 ?_ ⟨Qk _,by rw[wao];intro m hm;cases hm⟩ ?_
   ·(refine Q7 rfl ?_ ?_ ?_ ?_<;>(try simp only[go_sem])<;>(try simp))
   .rintro i ⟨hi,Yy⟩
    simp only[go_sem];refine QI (fun Yw=>?_) (fun YG=>?_)
    .have Yv:i<ls.length:=by omega
     have Y1:QM cL ls i=cL ls[i]:=Q8 Yv;have Uw:=h _ (Qh Yv);have o1:=l_Is ls[i] Uw.1 (fun m hm=>(Uw.2.1 m hm).1) Uw.2.2;have Xf:zbH n ls[i]->(if(∃ l∈ls,zbH n l)\/n<0 then(10:Int)else 0)=10:=fun h=>Qc (.inl ⟨_,Qh Yv,h⟩)
     have Yx:¬zbH n ls[i]->∀ l∈ls.take (i+1),¬zbH n l:=fun h m hm=>by
      rw[Zd Yv]at hm;rcases wan.1 hm with hm|hm
      .exact Yy m hm
      .obtain rfl:=Qr.1 hm;exact h
     generalize ls[i]=l at *
     simp only[go_sem,Y1,Yw]
     (repeat(refine Qg (by omega) ?_))
     by_cases d1:IsL l
     .have o1:=zbV o1 d1
      by_cases d2:n<0
      .have d2':(n<0)=True:=Qf d2
       rw[Xf (.inr (.inl d2))];refine Q3 o1 rfl ?_;simp only[go_sem,d2'];try rfl
      .have d2':(n<0)=False:=Ql d2
       by_cases d3:l.1=[]
       .have d3':((0:Int)<(l.1.length:Int))=False:=Ql (by rw[d3];decide)
        refine Q3 o1 rfl ?_;simp only[go_sem,d2',d3'];refine⟨i+1,⟨Yv,Yx (fun h=>h.elim (fun h=>h d1) fun h=>h.elim d2 fun h=>h.1 d3)⟩,(by show ls.length-(i+1)<ls.length-i;omega),?_⟩
        (refine Q7 rfl ?_ ?_ ?_ ?_<;>(try simp only[go_sem,Q6 (n:=(i:Int)+1) (by omega) (by omega)])<;>(try simp))
       .have hp:=wa6.2 d3
        have d3':((0:Int)<(l.1.length:Int))=True:=Qf (by omega);have hw:IntKind.wrap .i64 ((l.1.length:Int)-1)=((l.1.length-1:Nat):Int):=by rw[Q6 (by omega) (by omega)];omega
        have hk:l.1.length-1<l.1.length:=by omega
        have Ue:QM cM l.1 (l.1.length-1)=cM l.1[l.1.length-1]:=Q8 hk;have YF:zdY l=l.1[l.1.length-1].1:=by unfold zdY;rw[zfZ d3]
        rw[show l.1.length-1=l.1.length-1 from rfl]at hw;generalize l.1[l.1.length-1]=m at *
        obtain⟨k,VJ⟩:∃ k,k=l.1.length-1:=⟨_,rfl⟩
        rw[<-VJ]at hw Ue hk;have Vd:((0:Int)<=(k:Int))=True:=Qf (by omega);have Vr:((k:Int)<(l.1.length:Int))=True:=Qf (by omega);by_cases d4:n<=m.1
        .have d4':(n<=m.1)=True:=Qf d4
         rw[Xf (.inr (.inr ⟨d3,by rw[YF];exact d4⟩))];refine Q3 o1 rfl ?_;simp only[go_sem,d2',d3',hw,Ue,Vd,Vr,d4'];try rfl
        .have d4':(n<=m.1)=False:=Ql d4
         refine Q3 o1 rfl ?_;simp only[go_sem,d2',d3',hw,Ue,Vd,Vr,d4'];refine⟨i+1,⟨Yv,Yx (fun h=>h.elim (fun h=>h d1) fun h=>h.elim d2 fun h=>d4 (by rw[<-YF];exact h.2))⟩,(by show ls.length-(i+1)<ls.length-i;omega),?_⟩
         (refine Q7 rfl ?_ ?_ ?_ ?_<;>(try simp only[go_sem,Q6 (n:=(i:Int)+1) (by omega) (by omega)])<;>(try simp))
     .have o1:=zcf o1 d1
      rw[Xf (.inl d1)];refine Q3 o1 rfl ?_;simp only[go_sem];try rfl
    .obtain rfl:i=ls.length:=by omega
     rw[Q1]at Yy;by_cases d2:n<0
     .have d2':(n<0)=True:=Qf d2
      rw[Qc (.inr d2)];simp only[go_sem,d2'];try rfl
     .have d2':(n<0)=False:=Ql d2
      rw[Qb (fun h=>h.elim (fun⟨l,h1,h2⟩=>Yy l h1 h2) d2)];simp only[go_sem,d2'];try rfl
theorem zou(c:Fm)(out:List Fm){n C K:Nat}(hn:n<=1000000)(hC:C<=4000000000)(hx:out.length<1000000000)(hc:Fv n C K c)(ho:∀ o∈out,Fv n C K o)(idx:Int)(hi:(∃ k:Nat,∃ hk:k<out.length,idx=k/\out[k].1=c.1/\∀ q∈out.take k,¬q.1=c.1)\/(idx = -1/\∀ q∈out,¬q.1=c.1)){H:QD}(h1:H 7=some ((cF c).map .t))(h2:out=[]\/H 1000=some (Q5 cF out)) :
  RdC prog 76 [.one (QX 1000 3 out),.one (.fn 77 [(7,0)])] H (litI .i64 idx):=by
 cases out with
 |nil =>
  obtain rfl:idx = -1:=by
   rcases hi with⟨k,hk,_⟩|⟨h,_⟩
   .exact Qo hk (waO _)
   .exact h
  exact zrE 7 (zss c 77) rfl (Q2.2 ⟨trivial,Q2.2 ⟨xF_f,fun x hx=>by cases hx⟩⟩) h1
 |cons z zs =>
  rcases h2 with h2|h2
  .cases h2
  .refine zyO 7 1000 (by decide) (zs5 c (z::zs) 77 (fun o=>decide (o.1=c.1)) hx (fun o Px=>zu6 o c hn hC (ho o Px) hc) idx ?_) rfl (Q2.2 ⟨zzy,Q2.2 ⟨zzz,fun x hx=>by cases hx⟩⟩) h1 h2
   rcases hi with⟨k,hk,e,h3,h4⟩|⟨e,h3⟩
   .exact .inl ⟨k,hk,e,waA h3,fun q hq=>wad (h4 q hq)⟩
   .exact .inr ⟨e,fun q hq=>wad (h3 q hq)⟩
theorem zvu(c:Fm)(out:List Fm):(∃ k:Nat,∃ hk:k<out.length,out[k].1=c.1/\∀ q∈out.take k,¬q.1=c.1)\/∀ q∈out,¬q.1=c.1:=by
 cases h:out.any fun o=>decide (o.1=c.1)with
 |true =>
  obtain⟨k,hk,h1,h2⟩:=zmp _ out h;exact .inl ⟨k,hk,of_decide_eq_true h1,fun q hq=>of_decide_eq_false (h2 q hq)⟩
 |false=>exact .inr fun q hq e=>List.any_eq_false.1 h q hq (waA e)
theorem zw3{ys:List Fm}:(Q5 cF ys).length=ys.length*3:=zcC ZB
theorem cF_K{ys:List Fm}{i:Nat}(hi:i<ys.length):(Q5 cF ys).drop (i*3+1)=Abs.C.t (.lit (.bool (decide (ys[i].2<0))))::Abs.C.t (eN (dig ys[i].2.natAbs))::Q5 cF (ys.drop (i+1)):=by
 rw[<-wcx,zio ZB hi];rfl
theorem zzg{ys:List Fm}{i:Nat}(hi:i<ys.length){q:Fm}:(Q5 cF ys).take (i*3)++Abs.C.t (eL cMn q.1)::Abs.C.t (.lit (.bool (decide (q.2<0))))::Abs.C.t (eN (dig q.2.natAbs))::(Q5 cF ys).drop (i*3+3)=Q5 cF (ys.set i q):=by
 have:=zgU (f:=cF) (sz:=3) ZB hi (y:=q);rw[<-this];simp[Yh]
noncomputable def zfA(ls:List Fm)(n:Nat):TV:=by
 classical exact if okN ls/\okE (Zr ls)then .tup [.agg (sN (Zr ls) n (evI (Zr ls) (Zr ls).length)),tB true]else .tup [.agg [.junk,.junk,.junk],tB false]
theorem ziA{ls:List Fm}{n:Nat}(h1:okN ls)(h2:okE (Zr ls)):zfA ls n = .tup [.agg (sN (Zr ls) n (evI (Zr ls) (Zr ls).length)),tB true]:=Qc ⟨h1,h2⟩
theorem ztS{ls:List Fm}{n:Nat}{a:Fm}(ha:a∈ls)(hc:clF a=3):zfA ls n = .tup [.agg [.junk,.junk,.junk],tB false]:=Qb fun h=>h.1 a ha hc
theorem ztT{ls:List Fm}{n:Nat}(h:¬okE (Zr ls)):zfA ls n = .tup [.agg [.junk,.junk,.junk],tB false]:=Qb fun h'=>h h'.2
theorem zov{H:QD}{a b c:Go.Abs.C}:FzA H (.agg [a,b,c]) (.agg [.junk,.junk,.junk]):=zjI (.cons .junk (.cons .junk (.cons .junk .nil)))
theorem ziB(ls:List Fm)(m:Nat){n C K:Nat}(hn:n<=1000000)(hC:max C K<=500000000)(hl:ls.length<100000000)(h:∀ f∈ls,Fv n C K f) :
  Q9 prog 51 [.agg (sS ls m)] (zfA ls m):=by
 refine QJ QC call51 func51 rfl ntmps51 results51 (by simp) (by decide) ?_;have Nt:=fun i=>zk5 (P:=fun f=>Fv n (C+1) (K+1) f/\f.1≠[]) (ls:=ls) (fun a ha hc=>⟨(h a ha).norm,fun e=>by
  have e2:=zlC a;rw[hc]at e2;exact zgd.1 e2 e⟩) (i:=i)
 have Nu:=zk6 ls;simp only[go_sem];refine QK (fun i:Nat=>stL 113 [(2,.one (.ptr 2 0)),(4,.one (.ptr 4 0)),(19,.one (.t (eL cF ls))),(20,litI .i64 ls.length),(21,litI .i64 i)]
   (Zb 1000 cF (Zr (ls.take i))++[(2,[.t (.seq (some true) []),.t (.lit (.int .i64 0)),.t (.seq (some true) [])]),(4,[QX 1000 3 (Zr (ls.take i)),.t (.lit (.int .i64 m)),.t (.seq (some true) [])])])) (fun i=>i<=ls.length/\okN (ls.take i)) (fun i=>ls.length-i) 0 ?_ ⟨Qk _,by rw[wao];intro a ha;cases ha⟩ ?_
 .rw[wao,show Zr []=[]from rfl]
  (refine Q7 rfl ?_ ?_ ?_ ?_<;>(try simp only[go_sem])<;>(try simp))
 .rintro i ⟨hi,YA⟩
  simp only[go_sem];refine QI (fun Yw=>?_) (fun YG=>?_)
  .have Yv:i<ls.length:=by omega
   have Y1:QM cF ls i=cF ls[i]:=Q8 Yv;have hf:=h _ (Qh Yv);have o1:=zuJ ls[i] (N:=n) (L:=max C K) (by omega) (by omega) hf.wf (hf.bd hn (wbK _ _) (wbG _ _));have Yx:Zr (ls.take (i+1))=zds (Zr (ls.take i)) ls[i]:=by rw[Zd Yv,zfV]
   have X9:=fun hc=>ztS (n:=m) (Qh Yv) hc
   have Rg:¬clF ls[i]=3->okN (ls.take (i+1)):=fun hc a ha=>by
    rw[Zd Yv]at ha;rcases wan.1 ha with ha|ha
    .exact YA a ha
    .obtain rfl:=Qr.1 ha;exact hc
   have UA:=Nt i;have K3:=Nu i;have XC:=hf.norm;have YW:=cl3 ls[i];unfold zds at Yx;obtain⟨N2,EP⟩:∃ N2,N2=Zr (ls.take (i+1)):=⟨_,rfl⟩
   rw[<-EP]at Yx;generalize Zr (ls.take i)=out at *
   generalize zfA ls m=R at *
   generalize SU:ZQ ls[i]=c at *
   generalize clF ls[i]=cl at *
   generalize ls[i]=a at *
   simp only[go_sem,Y1,Yw]
   (repeat(refine Qg (by omega) ?_))
   refine Q3 o1 rfl ?_;by_cases c3:cl=3
   .rw[X9 c3]
    simp only[go_sem,Qf c3];exact zaW zov (.one .t)
   .have c3':(cl=3)=False:=Ql c3
    by_cases c2:cl=2
    .have c2':(cl=2)=True:=Qf c2
     rw[Qb (by omega)]at Yx;simp only[go_sem,c3',c2'];refine⟨i+1,⟨Yv,Rg c3⟩,(by show ls.length-(i+1)<ls.length-i;omega),?_⟩;rw[EP]at Yx
     (refine Q7 rfl ?_ ?_ ?_ ?_<;>(try simp only[go_sem,Yx,Q6 (n:=(i:Int)+1) (by omega) (by omega)])<;>(try simp))
    .have c2':(cl=2)=False:=Ql c2
     have c1:cl=1:=by rcases YW with h|h|h<;>omega
     rw[Qc c1]at Yx;simp only[go_sem,c3',c2'];rcases zvu c out with⟨k,hk,h3,h4⟩|h3
     .refine zbL (.inr rfl) (zou c out (n:=n) (C:=C+1) (K:=K+1) hn (by omega) (by omega) XC (fun o ho=>(UA o ho).1) k (.inl ⟨k,hk,rfl,h3,h4⟩) (by simp only[go_sem]<;>rfl) (by simp only[go_sem])) ?_
      have k0:((k:Int)<0)=False:=Ql (by omega);have k1:((0:Int)<=(k:Int))=True:=Qf (by omega);have k2:((k:Int)<(out.length:Int))=True:=Qf (by omega);have Kh:QX 1000 3 out=Go.Abs.C.vec 1000 3 0 out.length:=by cases out with
       |nil=>exact Qo hk (waO _)
       |cons _ _=>rfl
      have Vv:∀ o,ZM cF out o=some (Q5 cF out):=fun o=>by cases out with
       |nil=>exact Qo hk (waO _)
       |cons _ _=>rfl
      have hne:¬out=[]:=fun e=>by rw[e]at hk;exact Qo hk (waO _)
      have hK:=cF_K hk;have VM:=zw3 (ys:=out);have VW:=zzg hk (q:=c);have HC:=znI hk h3 h4;rw[HC]at Yx;have SV:=(UA _ (Qh hk)).1.ko;have SW:=XC.ko;have o2:=zf4 c.2 out[k].2 (by omega) (by omega);have Ds:QX 1000 3 (out.set k c)=Go.Abs.C.vec 1000 3 0 out.length:=by
       have e:(out.set k c).length=out.length:=List.length_set ..;rw[<-e];cases h:out.set k c with
       |nil=>rw[h]at e;have:0=out.length:=e;omega
       |cons _ _=>rfl
      have Dt:∀ o,ZM cF (out.set k c) o=some (Q5 cF (out.set k c)):=fun o=>by
       have e:(out.set k c).length=out.length:=List.length_set ..;cases h:out.set k c with
       |nil=>rw[h]at e;have:0=out.length:=e;omega
       |cons _ _=>rfl
      generalize out[k]=o at *
      rw[EP]at Yx;simp only[go_sem,k0];refine Q4 0 rfl ?_;simp only[go_sem,Kh,k1,k2,hK,Vv]
      (repeat(refine Qg (by omega) ?_))
      refine Q3 o2 rfl ?_;by_cases cm:o.2<c.2
      .rw[Qc cm]at Yx
       rw[zi6 cm];simp only[go_sem,k1,k2,Vv,VM,VW]
       (repeat(refine Qg (by omega) ?_))
       refine⟨i+1,⟨Yv,Rg c3⟩,(by show ls.length-(i+1)<ls.length-i;omega),?_⟩;((refine Q7 rfl ?_ ?_ ?_ ?_<;>(try simp only[go_sem,Yx,Ds,Q6 (n:=(i:Int)+1) (by omega) (by omega)])<;>(try simp)))<;>exact hne
      .rw[Qb cm]at Yx
       have hc:=zi5 (x:=c.2) (y:=o.2) (by omega);have Ja:(0<QY c.2 o.2)=False:=Ql (by omega);simp only[go_sem,Ja];refine⟨i+1,⟨Yv,Rg c3⟩,(by show ls.length-(i+1)<ls.length-i;omega),?_⟩;((refine Q7 rfl ?_ ?_ ?_ ?_<;>(try simp only[go_sem,Yx,Kh,Vv,Q6 (n:=(i:Int)+1) (by omega) (by omega)])<;>(try simp)))<;>exact hne
     .refine zbL (.inr rfl) (zou c out (n:=n) (C:=C+1) (K:=K+1) hn (by omega) (by omega) XC (fun o ho=>(UA o ho).1) (-1) (.inr ⟨rfl,h3⟩) (by simp only[go_sem]<;>rfl) (by simp only[go_sem])) ?_
      rw[znH h3]at Yx;simp only[go_sem];refine ZC (sz:=3) (bytes:=56) (by simp only[go_sem,QV]<;>decide) ZB out [c] (b:=1000) (by simp only[go_sem]<;>rfl) (by simp only[go_sem]<;>rfl) (by simp only[go_sem]<;>rfl) rfl (by simp) (by simp only[Qe,Qi]at *;omega) (by decide) ?_;simp only[go_sem];refine⟨i+1,⟨Yv,Rg c3⟩,(by show ls.length-(i+1)<ls.length-i;omega),?_⟩;rw[EP]at Yx
      (refine Q7 rfl ?_ ?_ ?_ ?_<;>(try simp only[go_sem,Yx,Q6 (n:=(i:Int)+1) (by omega) (by omega)])<;>(try simp))
  .obtain rfl:i=ls.length:=by omega
   rw[Q1]at YA;have UA:=Nt ls.length;have K3:=Nu ls.length;rw[Q1]at UA K3 ⊢;have VV:=ziA (n:=m) YA;have X9:=ztT (ls:=ls) (n:=m);have JV:=zpM ls;generalize Zr ls=out at *
   generalize zfA ls m=R at *
   clear Nt Nu h;have HD:=zlO JV;simp only[go_sem];refine QK (fun i:Nat=>stL 113 [(2,.one (.ptr 2 0)),(4,.one (.ptr 4 0)),(72,.one (.t (eL cF out))),(73,litI .i64 out.length),(74,litI .i64 i)]
     (Zb 1001 cF (evI out i)++[(2,[.t (.seq (some true) []),.t (.lit (.int .i64 0)),.t (.seq (some true) [])]),(4,[.t (eL cF out),.t (.lit (.int .i64 m)),QX 1001 3 (evI out i)])])) (fun i=>i<=out.length/\∀ i' j (hj:j<i') (Y6:i'<i) (hl:i'<out.length),Yi out[i'] (out[j]'(by omega))->out[i'].2+(out[j]'(by omega)).2<=0) (fun i=>out.length-i) 0 ?_ ⟨Qk _,fun i' j hj Y6=>Qo Y6 (waO _)⟩ ?_
   .show Go.Abs.GStep _ (stL 113 [(2,.one (.ptr 2 0)),(4,.one (.ptr 4 0)),(72,.one (.t (eL cF out))),(73,litI .i64 out.length),(74,litI .i64 (0:Nat))] (Zb 1001 cF []++[(2,[.t (.seq (some true) []),.t (.lit (.int .i64 0)),.t (.seq (some true) [])]),(4,[.t (eL cF out),.t (.lit (.int .i64 m)),QX 1001 3 []])]))
    cases out with
    |nil =>
     refine GStep.trans (zic 72 (by simp only[go_sem]<;>rfl)) ?_;refine GStep.trans (zar 4 (cs:=[.t (.seq (some true) []),.t (.lit (.int .i64 m)),.t (.seq (some true) [])]) (by simp only[go_sem]<;>rfl) (.cons .seq (.cons .refl (.cons .refl .nil)))) ?_;((refine Q7 rfl ?_ ?_ ?_ ?_<;>(try simp only[go_sem])<;>(try simp)))<;>rfl
    |cons z zs =>
     refine GStep.trans (zbu (b:=1000) (sz:=3) (len:=(z::zs).length) (by simp only[go_sem]<;>rfl) (Yl ZB)) ?_
     (refine Q7 rfl ?_ ?_ ?_ ?_<;>(try simp only[go_sem])<;>(try simp))
   .rintro i ⟨hi,Yy⟩
    simp only[go_sem];refine QI (fun Yw=>?_) (fun YG=>?_)
    .have Yv:i<out.length:=by omega
     have Y1:QM cF out i=cF out[i]:=Q8 Yv;have Kt:=HD i;have HE:evI out (i+1)=evI out i++evJ out[i] (out.take i):=by
      show _++evJ (out.getD i ([],0)) _=_;rw[waC,waa Yv];rfl
     obtain⟨A,hA⟩:∃ A:Nat->List Fm,A=fun j=>evI out i++evJ out[i] (out.take j):=⟨_,rfl⟩
     have Kg:A 0=evI out i:=by rw[hA];show _++evJ _ (out.take 0)=_;rw[wao];exact wal _
     have GK:A i=evI out (i+1):=by rw[hA,HE]
     have GM:∀ j (hj:j<out.length),A (j+1)=A j++(if Yi out[i] out[j]/\out[i].2+out[j].2=0 then[out[i]]else[]):=fun j hj=>by
      rw[hA];show _++evJ _ (out.take (j+1))=(_++evJ _ (out.take j))++_;rw[Zd hj,zoZ,waM]
     have GL:∀ j,j<=i->(A j).length<=i+1:=fun j hj=>by
      rw[hA];show(_++evJ _ (out.take j)).length<=_;have:=zlz out[i] (l:=out.take j) (JV.sublist (List.take_sublist _ _));rw[Qj];omega
     have Gk:=(UA _ (Qh Yv)).1;have XG:((0:Int)<=(i:Int))=True:=Qf (by omega);have Nv:min i out.length=i:=wbs (by omega);have Uy:(out.take i).length=i:=by rw[wat];exact Nv
     rw[<-Kg];simp only[go_sem,Y1,Yw,XG]
     (repeat(refine Qg (by omega) ?_))
     refine QK (fun j:Nat=>stL 113 [(2,.one (.ptr 2 0)),(4,.one (.ptr 4 0)),(11,.one (.ptr 11 0)),(72,.one (.t (eL cF out))),(73,litI .i64 out.length),(74,litI .i64 i),(83,.one (.t (eL cF (out.take i)))),(84,litI .i64 i),(85,litI .i64 j)]
       (Zb 1001 cF (A j)++[(2,[.t (.seq (some true) []),.t (.lit (.int .i64 0)),.t (.seq (some true) [])]),(4,[.t (eL cF out),.t (.lit (.int .i64 m)),QX 1001 3 (A j)]),(11,(cF out[i]).map .t)])) (fun j=>j<=i/\∀ j' (hj:j'<j) (hl:j'<out.length),Yi out[i] out[j']->out[i].2+out[j'].2<=0) (fun j=>i-j) 0 ?_ ⟨Qk _,fun j' hj=>Qo hj (waO _)⟩ ?_
     ·((refine Q7 rfl ?_ ?_ ?_ ?_<;>(try simp only[go_sem])<;>(try simp)))<;>exact .inl (by rw[Nv])
     .rintro j ⟨hj,hjn⟩
      simp only[go_sem];refine QI (fun YS=>?_) (fun Wt=>?_)
      .have Y2:j<i:=by omega
       have Mv:j<out.length:=by omega
       have YI:QM cF (out.take i) j=cF out[j]:=by rw[Q8 (by rw[wat];omega),List.getElem_take]
       have Rw:=(UA _ (Qh Mv)).1;have o1:=ztB out[i] out[j] hn (by omega) Gk Rw;have Ev:=Gk.ko;have LP:=Rw.ko;have o2:=zc7 out[i].2 out[j].2 (by omega) (by omega);have l2:=za6 out[i].2 out[j].2;have o3:=zdF (out[i].2+out[j].2) (by omega);have Ju:=GM j Mv;have Pi:=GL j (by omega);have Nw:(Yi out[i] out[j]->out[i].2+out[j].2<=0)->∀ j' (hj:j'<j+1) (hl:j'<out.length),Yi out[i] out[j']->out[i].2+out[j'].2<=0:=fun h j' Yz hl ht=>by
        by_cases e:j'=j
        .subst e;exact h ht
        .exact hjn j' (by omega) hl ht
       have Xf:Yi out[i] out[j]->0<out[i].2+out[j].2->R = .tup [.agg [.junk,.junk,.junk],tB false]:=fun ht hp=>X9 fun he=>by have:=he i j Y2 Yv ht;omega
       simp only[go_sem,YI,YS];refine⟨⟨by omega,by omega⟩,?_⟩;by_cases ht:Yi out[i] out[j]
       .have o1:=zbV o1 ht
        rcases wbH (out[i].2+out[j].2) 0 with cs|cs|cs
        .rw[Qb (fun h=>by have:=h.2;omega),wal]at Ju
         have s1:((out[i].2+out[j].2).sign=1)=False:=Ql (by rw[wcl cs];decide);have s2:((out[i].2+out[j].2).sign=0)=False:=Ql (by rw[wcl cs];decide);refine Q3 o1 rfl ?_;simp only[go_sem];refine Q3 o2 rfl ?_;simp only[go_sem];refine Q3 o3 rfl ?_;simp only[go_sem,s1,s2];refine⟨j+1,⟨Y2,Nw fun _=>by omega⟩,(by show i-(j+1)<i-j;omega),?_⟩
         (refine Q7 rfl ?_ ?_ ?_ ?_<;>(try simp only[go_sem,Ju,Q6 (n:=(j:Int)+1) (by omega) (by omega)])<;>(try simp))
        .rw[Qc ⟨ht,cs⟩]at Ju
         have s1:((out[i].2+out[j].2).sign=1)=False:=Ql (by rw[cs];decide);have s2:((out[i].2+out[j].2).sign=0)=True:=Qf (by rw[cs];rfl);refine Q3 o1 rfl ?_;simp only[go_sem];refine Q3 o2 rfl ?_;simp only[go_sem];refine Q3 o3 rfl ?_;simp only[go_sem,s1,s2];refine ZC (sz:=3) (bytes:=56) (by simp only[go_sem,QV]<;>decide) ZB (A j) [out[i]] (b:=1001) (by simp only[go_sem]<;>rfl) (by simp only[go_sem]<;>rfl) (by simp only[go_sem]<;>rfl) rfl (by simp) (by simp only[Qe,Qi]at *;omega) (by decide) ?_;simp only[go_sem];refine⟨j+1,⟨Y2,Nw fun _=>by omega⟩,(by show i-(j+1)<i-j;omega),?_⟩
         (refine Q7 rfl ?_ ?_ ?_ ?_<;>(try simp only[go_sem,Ju,Q6 (n:=(j:Int)+1) (by omega) (by omega)])<;>(try simp))
        .have s1:((out[i].2+out[j].2).sign=1)=True:=Qf (wbJ cs)
         rw[Xf ht cs];refine Q3 o1 rfl ?_;simp only[go_sem];refine Q3 o2 rfl ?_;simp only[go_sem];refine Q3 o3 rfl ?_;simp only[go_sem,s1];exact zaW zov (.one .t)
       .have o1:=zcf o1 ht
        rw[Qb (fun h=>ht h.1),wal]at Ju;refine Q3 o1 rfl ?_;simp only[go_sem];refine⟨j+1,⟨Y2,Nw fun h=>Qo h ht⟩,(by show i-(j+1)<i-j;omega),?_⟩
        (refine Q7 rfl ?_ ?_ ?_ ?_<;>(try simp only[go_sem,Ju,Q6 (n:=(j:Int)+1) (by omega) (by omega)])<;>(try simp))
      .obtain rfl:j=i:=by omega
       rw[GK];simp only[go_sem];refine⟨j+1,⟨Yv,fun i' j' Yz Y6 hl=>by
        by_cases e:i'=j
        .subst e;exact hjn j' Yz (by omega)
        .exact Yy i' j' Yz (by omega) hl⟩,(by show out.length-(j+1)<out.length-j;omega),?_⟩
       (refine Q7 rfl ?_ ?_ ?_ ?_<;>(try simp only[go_sem,Q6 (n:=(j:Int)+1) (by omega) (by omega)])<;>(try simp))
    .obtain rfl:i=out.length:=by omega
     have he:okE out:=fun i' j hj hl ht=>Yy i' j hj hl hl ht
     rw[VV he];simp only[go_sem];exact zaW (zjI (.cons .t (.cons .t (.cons (zdX ZB (by simp only[go_sem])) .nil)))) (.one .t)
end Go.Proofs.YtlgjjcmljmjenaaGreat
