/- At every input the call answers true and leaves its arguments as they were; no conditions. -/
import Derived.Test.YtlgjjcmljmjenaaGreatWe
import Derived.Test.YtlgjjcmljmjenaaGreatQa
import Derived.Test.YtlgjjcmljmjenaaGreatSb
set_option linter.unusedSimpArgs false
set_option linter.unusedVariables false
set_option maxRecDepth 100000
set_option maxHeartbeats 32000000
namespace Go.Proofs.YtlgjjcmljmjenaaGreat
open Go Go.Abs Go.Proofs.Tryz
def mL(fs:List Fm)(c:List Nat)(o j:Nat):List Fm:=pkF fs ((c.take j).eraseIdx o)
theorem zvZ(fs:List Fm)(c:List Nat)(o:Nat):mL fs c o 0=[]:=by unfold mL;rw[wao];rfl
theorem zv0{fs:List Fm}{c:List Nat}{j:Nat}(h:j<c.length):mL fs c j (j+1)=mL fs c j j:=by
 unfold mL;have hl:(c.take j).length=j:=by rw[wat];omega
 rw[Zd h,List.eraseIdx_append_of_length_le (by omega),hl,wbl,List.eraseIdx_of_length_le (l:=c.take j) (by omega)];rw[List.eraseIdx_cons_zero,wal]
theorem zv1{fs:List Fm}{c:List Nat}{o j:Nat}(h:j<c.length)(ho:j≠o):mL fs c o (j+1)=mL fs c o j++[fs.getD c[j] ([],0)]:=by
 unfold mL;have hl:(c.take j).length=j:=by rw[wat];omega
 have e:(c.take (j+1)).eraseIdx o=(c.take j).eraseIdx o++[c[j]]:=by
  rw[Zd h];by_cases a:o<j
  .rw[List.eraseIdx_append_of_lt_length (by omega)]
  .rw[List.eraseIdx_append_of_length_le (by omega),hl,List.eraseIdx_of_length_le (l:=c.take j) (by omega)]
   obtain⟨d,hd⟩:∃ d,o-j=d+1:=⟨o-j-1,by omega⟩
   rw[hd,List.eraseIdx_cons_succ];rfl
 rw[e];unfold pkF;rw[waG];rfl
theorem zxJ(fs:List Fm)(c:List Nat)(o j:Nat):(mL fs c o j).length<=c.length:=by
 unfold mL;rw[zlg];exact Qn (wdL _ _) (by rw[wat];omega)
theorem zo2{n:Nat}:∀ {c:List Nat} {a:Nat},c.Pairwise (fun x y=>x<y)->(∀ x∈c,a<=x/\x<n)->c.length<=n-a
 |[],_,_,_=>Qk _
 |x::c,a,h,hm=>by
  obtain⟨h1,h2⟩:=wbL.1 h;have h3:=zo2 (c:=c) (a:=x+1) h2 fun y hy=>⟨h1 y hy,(hm y (waj _ hy)).2⟩
  have h4:=hm x wam;rw[Qe];omega
def oI(R i:Nat):Nat:=if i=0 then R else i-1
theorem zsv{fs:List Fm}{c:List Nat}{k i:Nat}(hk:k<=4)(hl:fs.length<=8)(XO:∀ f∈fs,Fv k 1 1 f)(hc:zaU fs c c.length)(YW:c.length<=8)(hi:i<=c.length) :
  ∃ X,Q9 prog 13 [.one (eL cF (mL fs c (oI c.length i) c.length)),tI .i64 k] (.tup [X,tB (decide (0<i)),tI .i64 0]):=by
 obtain⟨c1,c2,c3,c4,c5⟩:=hc;have hm:∀ x∈c.eraseIdx (oI c.length i),x<fs.length:=fun x hx=>c2 x (wdM hx)
 have e:mL fs c (oI c.length i) c.length=pkF fs (c.eraseIdx (oI c.length i)):=by unfold mL;rw[Q1]
 obtain⟨o,h1,h2⟩:=zhu (pkF fs (c.eraseIdx (oI c.length i))) hk (by rw[zlg];exact Qn (wdL _ _) YW) (zqp XO hm);rw[e];have hs:o.isSome=decide (0<i):=by
  by_cases a:i=0
  .have e2:c.eraseIdx (oI c.length i)=c:=by
    rw[a];exact List.eraseIdx_of_length_le (Qd _)
   rw[e2]at h1;cases o with
   |none=>rw[a];rfl
   |some p=>exact Qo h1.1 (c3 p)
  .have e2:oI c.length i=i-1:=Qb a
   obtain⟨p,hp⟩:=c5 (i-1) (by omega);rw[e2]at h1;cases o with
   |none=>exact Qo hp (h1 p)
   |some p=>rw[waA (by omega)];rfl
 exact⟨xT k o,by rw[<-hs];exact h2⟩
theorem zsw(hD:ze6)(ls:List LL)(jl:ls.length<=maxLen)(kl:∀ l∈ls,zfD l)(n:Int)(n1:0<=n)(n2:n<256):Q9 prog 4 [.one (eL cL ls),tI .u8 n] (tB true):=by
 have hk:=zph hD;obtain⟨k,hw,Oi⟩:∃ k:Nat,Int.tmod n 4=(k:Int)/\k<4:=⟨(n%4).toNat,by rw[wee n1];omega,by omega⟩
 have e1:IntKind.wrap .i64 (k:Int)=(k:Int):=Q6 (by omega) (by omega);have Xz:=zrC ls k jl kl;have jl2:ls.length<=9223372036854775807:=Qn jl (by decide);by_cases c1:(∀ l∈ls,FL2 l)/\ls.length<=8/\(k:Int)<=4
 .have Xz:=zbV Xz c1
  by_cases c2:ls.length<=6
  .have XP:((6:Int)<(ls.length:Int))=False:=Ql (by omega)
   obtain⟨hf,NR,_⟩:=c1;rcases zqm ls (k:=k) (by omega) NR hf kl with⟨X9,hs⟩|⟨VV,YW,XO,o,Vo,hs⟩
   .have hc:=zvi ls k 10 (by decide) hs
    refine QJ QC call4 func4 rfl ntmps4 results4 (by simp) (by decide) ?_;simp only[go_sem,hw,e1];((repeat(refine Q4 0 rfl ?_;simp only[go_sem,hw,e1,XP]));refine Q3 (hk) rfl ?_;simp only[go_sem,hw,e1,XP];(repeat(refine Q4 0 rfl ?_;simp only[go_sem,hw,e1,XP]));refine Q3 (Xz) rfl ?_;simp only[go_sem,hw,e1,XP];(repeat(refine Q4 0 rfl ?_;simp only[go_sem,hw,e1,XP]));refine Q3 (hs) rfl ?_;simp only[go_sem,hw,e1,XP];(repeat(refine Q4 0 rfl ?_;simp only[go_sem,hw,e1,XP]));refine Q3 (hc) rfl ?_;simp only[go_sem,hw,e1,XP];(repeat(refine Q4 0 rfl ?_;simp only[go_sem,hw,e1,XP])))
   .cases o with
    |some p =>
     have UX:Q9 prog 13 [.one (eL cL ls),tI .i64 k] (.tup [xT k (some p),tB true,tI .i64 0]):=hs;rw[YW]at UX;have hc:=zvj (ls.map lv) k UX;rw[<-YW]at hc;have hs:Q9 prog 13 [.one (eL cL ls),tI .i64 k] (.tup [.one (eL cJ (fnG k p)),tB true,tI .i64 0]):=hs;refine QJ QC call4 func4 rfl ntmps4 results4 (by simp) (by decide) ?_;simp only[go_sem,hw,e1];((repeat(refine Q4 0 rfl ?_;simp only[go_sem,hw,e1,XP]));refine Q3 (hk) rfl ?_;simp only[go_sem,hw,e1,XP];(repeat(refine Q4 0 rfl ?_;simp only[go_sem,hw,e1,XP]));refine Q3 (Xz) rfl ?_;simp only[go_sem,hw,e1,XP];(repeat(refine Q4 0 rfl ?_;simp only[go_sem,hw,e1,XP]));refine Q3 (hs) rfl ?_;simp only[go_sem,hw,e1,XP];(repeat(refine Q4 0 rfl ?_;simp only[go_sem,hw,e1,XP]));refine Q3 (hc) rfl ?_;simp only[go_sem,hw,e1,XP];(repeat(refine Q4 0 rfl ?_;simp only[go_sem,hw,e1,XP])))
    |none =>
     have hs:Q9 prog 13 [.one (eL cL ls),tI .i64 k] (.tup [.one (.seq (some true) []),tB false,tI .i64 0]):=hs;obtain⟨c,Jy,hc⟩:=zrj hD (ls.map lv) (n:=k) (by omega) (by rw[Qm];omega) XO Vo;have Xu:(ls.map lv).length=ls.length:=Qm _;rw[YW]at hs Xz ⊢;rw[<-Xu]at XP NR c2;generalize ls.map lv=fs at *
     clear YW Xu Vo kl jl jl2 hf VV;have Oj:c.length<=8:=by
      exact Qn (zo2 (a:=0) Jy.1 fun x hx=>⟨Qk _,Jy.2.1 x hx⟩) NR
     have YQ:0<c.length:=by
      cases c with
      |nil=>exact Qo (fun f hf=>by cases hf) (Jy.2.2.1 fun _=>0)
      |cons _ _=>exact Nat.succ_pos _
     refine QJ QC call4 func4 rfl ntmps4 results4 (by simp) (by decide) ?_;simp only[go_sem,hw,e1];((repeat(refine Q4 0 rfl ?_;simp only[go_sem,hw,e1,XP]));refine Q3 (hk) rfl ?_;simp only[go_sem,hw,e1,XP];(repeat(refine Q4 0 rfl ?_;simp only[go_sem,hw,e1,XP]));refine Q3 (Xz) rfl ?_;simp only[go_sem,hw,e1,XP];(repeat(refine Q4 0 rfl ?_;simp only[go_sem,hw,e1,XP]));refine Q3 (hs) rfl ?_;simp only[go_sem,hw,e1,XP];(repeat(refine Q4 0 rfl ?_;simp only[go_sem,hw,e1,XP]));refine Q3 (hc) rfl ?_;simp only[go_sem,hw,e1,XP];(repeat(refine Q4 0 rfl ?_;simp only[go_sem,hw,e1,XP])));refine QK (fun i:Nat=>stL 125 [(0,.one (.t (eL cF fs))),(5,litI .i64 k),(9,.one (.t (eL cI1 c))),(11,litI .i64 ((i:Int)-1))] []) (fun i=>i<=c.length+1) (fun i=>c.length+1-i) 0 ?_ (Qk _) ?_
     ·(refine Q7 rfl ?_ ?_ ?_ ?_<;>(try simp only[go_sem,QA])<;>(try simp))
     .intro i hi
      simp only[go_sem];refine QI (fun Yw=>?_) (fun YG=>?_)
      .have Yv:i<=c.length:=by omega
       obtain⟨X,Ol⟩:=zsv (i:=i) (by omega) NR XO Jy Oj Yv;simp only[go_sem];refine QK (fun j:Nat=>if j=c.length then stL 125 [(0,.one (.t (eL cF fs))),(5,litI .i64 k),(9,.one (.t (eL cI1 c))),(11,litI .i64 ((i:Int)-1)),(12,.one (.t (eL cF (mL fs c (oI c.length i) c.length)))),(13,litI .i64 j)] []
        else stL 125 [(0,.one (.t (eL cF fs))),(5,litI .i64 k),(9,.one (.t (eL cI1 c))),(11,litI .i64 ((i:Int)-1)),(12,zaf 1000 3 (mL fs c (oI c.length i) j)),(13,litI .i64 j)] (Zb 1000 cF (mL fs c (oI c.length i) j))) (fun j=>j<=c.length) (fun j=>c.length-j) 0 ?_ (Qk _) ?_
       .rw[Qb (by omega),zvZ]
        (refine Q7 rfl ?_ ?_ ?_ ?_<;>(try simp only[go_sem,QA])<;>(try simp))
       .intro j hj
        by_cases Lt:j=c.length
        .subst Lt
         simp only[Qc];have Om:((c.length:Int)<(c.length:Int))=False:=Ql (by omega);generalize mL fs c (oI c.length i) c.length=M at *
         have XA:IntKind.wrap .i64 ((i:Int)-1+1)=(i:Int):=by rw[Q6 (by omega) (by omega)];omega
         have Rn:(((i+1:Nat):Int))-1=(i:Int):=by omega
         have Ed:(((0:Int)<=(i:Int)-1)=True/\decide (0<i)=true)\/(((0:Int)<=(i:Int)-1)=False/\decide (0<i)=false):=by
          by_cases z:0<i
          .exact .inl ⟨Qf (by omega),waA z⟩
          .exact .inr ⟨Ql (by omega),wad z⟩
         generalize decide (0<i)=fb at *
         rcases Ed with⟨Ed,rfl⟩|⟨Ed,rfl⟩<;>(
          simp only[go_sem,Om];refine Q3 Ol rfl ?_;simp only[go_sem,Ed];refine⟨i+1,by omega,(by show c.length+1-(i+1)<c.length+1-i;omega),?_⟩
          (refine Q7 rfl ?_ ?_ ?_ ?_<;>(try simp only[go_sem,QA,XA,Rn])<;>(try simp)))
        .simp only[Qb Lt]
         have YS:j<c.length:=by omega
         have XY:((j:Int)<(c.length:Int))=True:=Qf (by omega);have VB:((0:Int)<=(j:Int))=True:=Qf (by omega);have Y1:QM cI1 c j=cI1 c[j]:=Q8 YS;have hq:=Jy.2.1 _ (Qh YS);have Ee:∀ hm:j-1<c.length,0<j->c[j-1]<c[j]:=fun hm h=>List.pairwise_iff_getElem.1 Jy.1 (j-1) j hm YS (by omega)
         obtain⟨m,hm⟩:∃ m,m=j-1:=⟨_,rfl⟩
         have Ef:m<c.length:=by omega
         have Ee:=Ee (by omega);have WQ:QM cI1 c m=cI1 c[m]:=Q8 Ef;have Ro:0<j->c[m]<c[j]:=by subst hm;exact Ee
         have WR:((m:Int)<(c.length:Int))=True:=Qf (by omega);have X6:((0:Int)<=(m:Int))=True:=Qf (by omega);have XA:IntKind.wrap .i64 ((j:Int)+1)=((j+1:Nat):Int):=by rw[Q6 (by omega) (by omega)];omega
         have Jz:j=oI c.length i->mL fs c (oI c.length i) (j+1)=mL fs c (oI c.length i) j:=fun e=>by rw[<-e];exact zv0 YS
         have Vc:j≠oI c.length i->mL fs c (oI c.length i) (j+1)=mL fs c (oI c.length i) j++[fs.getD c[j] ([],0)]:=fun e=>zv1 YS e
         have UA:j=oI c.length i↔j+1=i:=by
          unfold oI;split<;>omega
         have Rp:=zxJ fs c (oI c.length i) j;generalize oI c.length i=o at *
         generalize c[m]=q' at *
         generalize c[j]=q at *
         have Ut:((q:Int)<0)=False:=Ql (by omega);have XI:((q:Int)<(fs.length:Int))=True:=Qf (by omega);have J0:((0:Int)<=(q:Int))=True:=Qf (by omega);have RO:((fs.length:Int)<=(q:Int))=False:=Ql (by omega);have YI:QM cF fs q=cF (fs.getD q ([],0)):=by rw[Q8 hq,waC,waa hq];rfl
         generalize fs.getD q ([],0)=f at *
         obtain⟨B,hB⟩:∃ B,B=mL fs c o (j+1):=⟨_,rfl⟩
         rw[<-hB]at Jz Vc;obtain⟨ML,Ff⟩:∃ ML,ML=mL fs c o c.length:=⟨_,rfl⟩
         rw[<-Ff];have Lu:j+1=c.length->ML=B:=fun e=>by rw[Ff,hB,e]
         obtain⟨CM,Uu⟩:∃ CM,CM=stL 125 [(0,.one (.t (eL cF fs))),(5,litI .i64 k),(9,.one (.t (eL cI1 c))),(11,litI .i64 ((i:Int)-1)),(12,zaf 1000 3 B),(13,litI .i64 (j+1:Nat))] (Zb 1000 cF B):=⟨_,rfl⟩
         have Y5:Go.Abs.GStep CM (if j+1=c.length then stL 125 [(0,.one (.t (eL cF fs))),(5,litI .i64 k),(9,.one (.t (eL cI1 c))),(11,litI .i64 ((i:Int)-1)),(12,.one (.t (eL cF (ML)))),(13,litI .i64 (j+1:Nat))] []
           else stL 125 [(0,.one (.t (eL cF fs))),(5,litI .i64 k),(9,.one (.t (eL cI1 c))),(11,litI .i64 ((i:Int)-1)),(12,zaf 1000 3 (mL fs c o (j+1))),(13,litI .i64 (j+1:Nat))] (Zb 1000 cF (mL fs c o (j+1)))):=by
          by_cases e2:j+1=c.length
          .rw[Qc e2,Uu,Lu e2]
           cases B with
           |nil =>
            refine GStep.trans (zic 12 (nl:=some true) (xs:=[]) (by simp only[go_sem])) ?_
            (refine Q7 rfl ?_ ?_ ?_ ?_<;>(try simp only[go_sem,QA])<;>(try simp))
            rfl
           |cons z zs =>
            refine GStep.trans (zbu (b:=1000) (sz:=3) (len:=(z::zs).length) (by simp only[go_sem,ziG]<;>rfl) (Yl ZB)) ?_
            (refine Q7 rfl ?_ ?_ ?_ ?_<;>(try simp only[go_sem,QA,zkC,ziG])<;>(try simp))
          .rw[Qb e2,Uu,<-hB]
           (refine Q7 rfl ?_ ?_ ?_ ?_<;>(try simp only[go_sem,QA])<;>(try simp))
         clear hB Ff Lu;generalize mL fs c o j=A at *
         have Xn:((j:Int)=(i:Int)-1)=False/\B=A++[f]\/((j:Int)=(i:Int)-1)=True/\B=A:=by
          by_cases e:j+1=i
          .exact .inr ⟨Qf (by omega),Jz (UA.2 e)⟩
          .exact .inl ⟨Ql (by omega),Vc fun h=>e (UA.1 h)⟩
         clear Jz Vc UA Ee;have X1:((0:Int)<(j:Int))=True/\IntKind.wrap .i64 ((j:Int)-1)=(m:Int)/\((q:Int)<=(q':Int))=False\/((0:Int)<(j:Int))=False/\True/\True:=by
          by_cases z:0<j
          .exact .inl ⟨Qf (by omega),by rw[Q6 (by omega) (by omega)];omega,Ql (by have:=Ro z;omega)⟩
          .exact .inr ⟨Ql (by omega),trivial,trivial⟩
         clear Ro;rcases X1 with⟨z1,z2,z3⟩|⟨z1,z2,z3⟩<;>rcases Xn with⟨y1,rfl⟩|⟨y1,rfl⟩
         .simp only[go_sem,XY]
          refine Q4 0 rfl ?_;simp only[go_sem,Y1,YI,WQ,XY,VB,WR,X6,Ut,XI,J0,RO,z1,z2,z3,y1]
          (repeat(refine Qg (by omega) ?_))
          (try simp only[go_sem,Y1,YI,XY,VB,XI,J0])
          (repeat(refine Qg (by omega) ?_))
          refine ZC (sz:=3) (bytes:=56) (by simp only[go_sem,QV]<;>decide) ZB A [f] (b:=1000) (by simp only[go_sem]<;>rfl) (by simp only[go_sem]<;>rfl) (by simp only[go_sem]<;>rfl) rfl (by simp) (by simp only[Qe,Qi]at *;omega) (by decide) ?_;simp only[go_sem];refine⟨j+1,YS,(by show c.length-(j+1)<c.length-j;omega),GStep.trans (σ₁:=CM) ?_ Y5⟩;rw[Uu]
          (refine Q7 rfl ?_ ?_ ?_ ?_<;>(try simp only[go_sem,QA,XA])<;>(try simp))
         .simp only[go_sem,XY]
          refine Q4 0 rfl ?_;simp only[go_sem,Y1,WQ,XY,VB,WR,X6,Ut,XI,J0,RO,z1,z2,z3,y1]
          (repeat(refine Qg (by omega) ?_))
          refine⟨j+1,YS,(by show c.length-(j+1)<c.length-j;omega),GStep.trans (σ₁:=CM) ?_ Y5⟩;rw[Uu]
          (refine Q7 rfl ?_ ?_ ?_ ?_<;>(try simp only[go_sem,QA,XA])<;>(try simp))
         .simp only[go_sem,XY]
          refine Q4 0 rfl ?_;simp only[go_sem,Y1,YI,WQ,XY,VB,WR,X6,Ut,XI,J0,RO,z1,z2,z3,y1]
          (repeat(refine Qg (by omega) ?_))
          (try simp only[go_sem,Y1,YI,XY,VB,XI,J0])
          (repeat(refine Qg (by omega) ?_))
          refine ZC (sz:=3) (bytes:=56) (by simp only[go_sem,QV]<;>decide) ZB A [f] (b:=1000) (by simp only[go_sem]<;>rfl) (by simp only[go_sem]<;>rfl) (by simp only[go_sem]<;>rfl) rfl (by simp) (by simp only[Qe,Qi]at *;omega) (by decide) ?_;simp only[go_sem];refine⟨j+1,YS,(by show c.length-(j+1)<c.length-j;omega),GStep.trans (σ₁:=CM) ?_ Y5⟩;rw[Uu]
          (refine Q7 rfl ?_ ?_ ?_ ?_<;>(try simp only[go_sem,QA,XA])<;>(try simp))
         .simp only[go_sem,XY]
          refine Q4 0 rfl ?_;simp only[go_sem,Y1,WQ,XY,VB,WR,X6,Ut,XI,J0,RO,z1,z2,z3,y1]
          (repeat(refine Qg (by omega) ?_))
          refine⟨j+1,YS,(by show c.length-(j+1)<c.length-j;omega),GStep.trans (σ₁:=CM) ?_ Y5⟩;rw[Uu]
          (refine Q7 rfl ?_ ?_ ?_ ?_<;>(try simp only[go_sem,QA,XA])<;>(try simp))
      .simp only[go_sem]
  .have XP:((6:Int)<(ls.length:Int))=True:=Qf (by omega)
   refine QJ QC call4 func4 rfl ntmps4 results4 (by simp) (by decide) ?_;simp only[go_sem,hw,e1];refine Q3 hk rfl ?_;simp only[go_sem,hw,e1];refine Q3 Xz rfl ?_;simp only[go_sem,XP]
 .have Xz:=zcf Xz c1
  refine QJ QC call4 func4 rfl ntmps4 results4 (by simp) (by decide) ?_;simp only[go_sem,hw,e1];refine Q3 hk rfl ?_;simp only[go_sem,hw,e1];refine Q3 Xz rfl ?_;simp only[go_sem]
end Go.Proofs.YtlgjjcmljmjenaaGreat
namespace Go.Proofs.YtlgjjcmljmjenaaGreat
open Go Go.Abs Go.Proofs.Tryz Go.ChangeShapes Go.WideShapes Go.ChangeAt Go.RowKit
theorem zrJ(os:Os)(started:os.Started)(H:Type)(enc:TypeId×Value->H) :
  ReturnsInHanded {} Tryz.checked os 4 .any (Rows.liaCoresSpec.pre6 enc prog Tryz.f4 Rows.liaCoresRow.domain false) (Rows.liaCoresSpec.post enc prog Tryz.f4 false true false false):=by
 refine returnsInHanded_of_change (C:=Tryz.checked) Tryz.ownK started (by kernel_rfl) func4
  (ChangeSpec.witness6 (enc:=enc) (C:=Tryz.checked) false ⟨#[],#[.slice none 0 0,.int .u8 0],[]⟩ 8 (by kernel_rfl) (by kernel_rfl) (by kernel_rfl) (by kernel_rfl)) ?_
 intro W base args ds gs before YO hW _ _;refine zmz (S:=zgv) (tb:=4) zoz Tryz.laidOut (by intro t ht;revert t;decide +kernel) rfl Tryz.underlying4 rfl (fun ds h=>?_) (fun tvs h=>?_) YO hW
 .match ds,h with
  |[d0,d1],_=>rfl
 .obtain⟨x0,_,rfl,h0,h⟩:=zg1 h
  obtain⟨x1,_,rfl,h1,h⟩:=zg1 h;obtain rfl:=zoy h;obtain⟨l0,rfl,j0,k0⟩:=znn h0;obtain⟨n1,rfl,k1⟩:=zpP Tryz.underlying5 h1;have k1:=zru k1;exact zsw zpq l0 j0 k0 n1 k1.1 k1.2
theorem liaCores_holds:Rows.LiaCoresSaid :=
 OpenClaim.holds_of_wide 4 Tryz.f4 rfl rfl rfl rfl rfl rfl rfl ⟨rfl,rfl,rfl,rfl,rfl⟩ rfl rfl rfl rfl rfl (by kernel_rfl) func4 (by kernel_rfl)
  (of_decide_eq_true (by kernel_rfl)) (by unfold Func.isWrapper;first|(rw[Qc (by decide +kernel)];kernel_rfl)|(rw[Qb (by decide +kernel)];exact⟨rfl,rfl⟩))
  (fun os started H enc _=>zrJ os started H enc)
end Go.Proofs.YtlgjjcmljmjenaaGreat
