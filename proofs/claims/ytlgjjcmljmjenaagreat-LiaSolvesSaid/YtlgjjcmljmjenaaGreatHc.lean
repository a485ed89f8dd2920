/- At every input the call answers true and leaves its arguments as they were; no conditions. -/
import Derived.Test.YtlgjjcmljmjenaaGreatWb
import Derived.Test.YtlgjjcmljmjenaaGreatHa
import Derived.Test.YtlgjjcmljmjenaaGreatPa
set_option linter.unusedSimpArgs false
set_option linter.unusedVariables false
set_option maxRecDepth 100000
set_option maxHeartbeats 32000000
namespace Go.Proofs.YtlgjjcmljmjenaaGreat
open Go Go.Abs Go.Proofs.Tryz
theorem znt(xs:List Nat)(hl:xs.length<=9223372036854775807):Q9 prog 32 [tN xs] (tB (decide (IsN xs))):=by
 refine QJ QC call32 func32 rfl ntmps32 results32 (by simp) (by decide) ?_;simp only[go_sem];refine QK (fun i:Nat=>stL 27 [(0,aN xs),(3,litI .i64 i)] []) (fun i=>i<=xs.length/\∀ j (h:j<xs.length),j<i->xs[j]<1000000000) (fun i=>xs.length-i) 0 ?_ ⟨Qk _,fun j h hj=>Qo hj (waO _)⟩ ?_
 .refine Q7 rfl ?_ ?_ rfl rfl<;>simp only[go_sem]<;>simp
 .rintro i ⟨hi,YK⟩
  simp only[go_sem];refine QI (fun Yw=>?_) (fun YG=>?_)
  .have Yv:i<xs.length:=by omega
   simp only[go_sem,Q8 Yv,Yw];refine⟨by omega,QI (fun h=>?_) (fun h=>?_)⟩
   .simp only[go_sem]
    symm;simp only[decide_eq_false_iff_not];intro hc;have:=hc.1 xs[i] (Qh _);simp only[BB]at this;omega
   .simp only[go_sem]
    refine⟨i+1,⟨Yv,fun j hj K5=>?_⟩,(by show xs.length-(i+1)<xs.length-i;omega),?_⟩
    .by_cases e:j=i
     .subst e;omega
     .exact YK j hj (by omega)
    .refine Q7 rfl ?_ ?_ rfl rfl<;>simp only[go_sem,Q6 (n:=(i:Int)+1) (by omega) (by omega)]<;>simp
  .have Ua:i=xs.length:=by omega
   subst Ua;have hall:∀ x∈xs,x<BB:=fun x hx=>by
    obtain⟨j,hj,rfl⟩:=waK.1 hx;exact YK j hj hj
   simp only[go_sem];cases hx:xs with
   |nil =>
    simp only[go_sem];rfl
   |cons x l =>
    rw[hx]at hl hall;simp only[Qe]at hl;have hne:¬((l.length:Int)+1=0):=by omega
    have Y0:l.length<(x::l).length:=by simp
    (iterate 3((try simp only[go_sem,hne,show(l.length:Int)+1-1=(l.length:Int) by omega]);try simp(disch:=omega)only[Q6,QE,QG,Q8,hne,show(l.length:Int)+1-1=(l.length:Int) by omega]))
    have e:(x::l).getLast? = some ((x::l)[l.length]):=by simp[wco]
    have Y9:IsN (x::l)↔(x::l)[l.length]≠0:=by
     unfold IsN;rw[e];simp only[ne_eq,wa1];exact⟨fun h=>h.2,fun h=>⟨hall,h⟩⟩
    refine⟨by omega,?_⟩;rw[wax,Y9];omega
theorem zpB(xs:List Nat)(hl:xs.length<=9223372036854775807):Q9 prog 68 [tN xs] (tN (held xs)):=by
 refine QJ QC call68 func68 rfl ntmps68 results68 (by simp) (by decide) ?_;simp only[go_sem];refine Q3 (znt xs hl) rfl ?_;by_cases h:IsN xs
 .simp only[go_sem,h,held]
  exact Yr
 .simp only[go_sem,h,held]
  exact zcz
theorem zm3(a b:List Nat)(ha:a.length<=9223372036854775807)(hb:b.length<=9223372036854775807):Q9 prog 47 [tN a,tN b] (tI .i64 (QY (vN a) (vN b))):=by
 refine QJ QC call47 func47 rfl ntmps47 results47 (by simp) (by decide) ?_;simp only[go_sem];refine Q3 (zpB a ha) rfl ?_;simp only[go_sem];refine Q3 (zpB b hb) rfl ?_;have FF:=zan a;have JJ:=zan b;have hA:=zag a;have hB:=zag b;unfold vN;generalize held a=x at *
 generalize held b=y at *
 simp only[go_sem];refine QI (fun h=>?_) (fun h=>?_)
 .simp only[go_sem]
  refine QI (fun h'=>?_) (fun h'=>?_)
  .have:=zdC hA hB (by omega)
   simp only[go_sem];unfold QY;rw[Qc (by omega)]
  .have:=zdC hB hA (by omega)
   simp only[go_sem];unfold QY;rw[Qb (by omega),Qc (by omega)]
 .have Y0:x.length=y.length:=by omega
  simp only[go_sem];refine QK (fun k:Nat=>stL 47 [(5,aN x),(6,aN y),(7,litI .i64 ((k:Int)-1))] []) (fun k=>k<=x.length/\x.drop k=y.drop k) (fun k=>k) x.length ?_ ⟨Qd _,by rw[wa5,Y0,wa5]⟩ ?_
  .refine Q7 rfl ?_ ?_ rfl rfl<;>simp only[go_sem,Q6 (n:=(x.length:Int)-1) (by omega) (by omega)]<;>simp
  .rintro k ⟨hk,hd⟩
   simp only[go_sem];refine QI (fun Yw=>?_) (fun YG=>?_)
   .obtain⟨i,rfl⟩:∃ i,k=i+1:=⟨k-1,by omega⟩
    have hx:i<x.length:=by omega
    have hy:i<y.length:=by omega
    have e:((i:Int)+1-1)=i:=by omega
    simp only[go_sem,e];refine Q4 0 rfl ?_
    (iterate 3((try simp only[go_sem,e]);try simp(disch:=omega)only[Q6,QE,QG,Q8,e]))
    refine⟨by omega,by omega,QI (fun h=>?_) (fun h=>?_)⟩
    .simp only[go_sem]
     have:=zfS hA.1 hx hy hd (by omega);unfold QY;rw[Qc (by omega)]
    .simp only[go_sem]
     refine Q4 0 rfl ?_
     (iterate 3((try simp only[go_sem,e]);try simp(disch:=omega)only[Q6,QE,QG,Q8,e]))
     refine⟨by omega,by omega,QI (fun h'=>?_) (fun h'=>?_)⟩
     .simp only[go_sem]
      have:=zfS hB.1 hy hx hd.symm (by omega);unfold QY;rw[Qb (by omega),Qc (by omega)]
     .simp only[go_sem]
      refine⟨i,⟨by omega,?_⟩,waN i,?_⟩
      .rw[waw hx,waw hy,hd,show x[i]=y[i] by omega]
      .refine Q7 rfl ?_ ?_ rfl rfl<;>simp only[go_sem,e,Q6 (n:=(i:Int)-1) (by omega) (by omega)]<;>simp
   .have Vd:k=0:=by omega
    subst Vd;simp only[go_sem];have:x=y:=by simpa using hd
    subst this;unfold QY;rw[Qb (by omega),Qb (by omega)]
theorem zlM(neg:Bool)(mag:List Nat)(hl:mag.length<=9223372036854775807):Q9 prog 14 [gI neg mag] (tB (decide (IsI neg mag))):=by
 refine QJ QC call14 func14 rfl ntmps14 results14 (by simp) (by decide) ?_;simp only[go_sem];refine Q3 (znt mag hl) rfl ?_;by_cases h:IsN mag
 .cases mag with
  |nil =>
   cases neg
   .simp only[go_sem,h]
    simp[IsI,h]
   .simp only[go_sem,h]
    simp[IsI]
  |cons x l =>
   have hp:(0:Int)<(l.length:Int)+1:=by omega
   cases neg
   .simp only[go_sem,h,hp]
    simp[IsI,h]
   .simp only[go_sem,h,hp]
    simp[IsI,h]
 .simp only[go_sem,h]
  simp[IsI,h]
theorem zi9(s:Bool)(a:List Nat)(hl:a.length<=9223372036854775807):Q9 prog 44 [gI s a] (eI (iv s a)):=by
 refine QJ QC call44 func44 rfl ntmps44 results44 (by simp) (by decide) ?_;simp only[go_sem];refine Q3 (zlM s a hl) rfl ?_;by_cases h:IsI s a
 .rw[<-zhV h]
  simp only[go_sem,h];exact Zk .t .t
 .have e:iv s a=0:=Qb h
  rw[e,zlF];simp only[go_sem,h];exact Zk .t .weak
theorem zpC(s:Bool)(a:List Nat)(hl:a.length<=9223372036854775807):Q9 prog 29 [gI s a] (eI ((iv s a).natAbs:Int)):=by
 refine QJ QC call29 func29 rfl ntmps29 results29 (by simp) (by decide) ?_;simp only[go_sem];refine Q3 (zi9 s a (by omega)) rfl ?_;generalize iv s a=z at *
 have e3:eI (z.natAbs:Int)=gI false (dig z.natAbs):=by
  unfold eI;rw[show((z.natAbs:Int)).natAbs=z.natAbs by omega,wad (by omega)]
 rw[e3];simp only[go_sem];exact Zk .t .t
theorem zva(neg:Bool)(mag:List Nat)(hl:mag.length<=9223372036854775807):Q9 prog 24 [gI neg mag] (tI .i64 (iv neg mag).sign):=by
 refine QJ QC call24 func24 rfl ntmps24 results24 (by simp) (by decide) ?_;simp only[go_sem];refine Q3 (zi9 neg mag hl) rfl ?_;have hs:=zgD (iv neg mag);generalize iv neg mag=z at *
 generalize z.sign=sg at *
 by_cases h0:z=0
 .have e0:(dig z.natAbs).length=0:=by subst h0;simp[Zi]
  simp only[go_sem,e0];omega
 .have hne:¬((dig z.natAbs).length:Int)=0:=fun e=>by
   have:=Yt.1 (wbd.1 (Int.ofNat_inj.1 e));omega
  by_cases hn:z<0
  .have e:sg = -1:=by omega
   simp only[go_sem,hne,hn,e]
  .have e:sg=1:=by omega
   simp only[go_sem,hne,hn,e]
theorem zwS(s:Bool)(a:List Nat)(t:Bool)(b:List Nat)(ha:a.length<=9223372036854775807)(hb:b.length<=9223372036854775807):Q9 prog 25 [gI s a,gI t b] (tI .i64 (QY (iv s a) (iv t b))):=by
 refine QJ QC call25 func25 rfl ntmps25 results25 (by simp) (by decide) ?_;simp only[go_sem];refine Q4 0 rfl ?_;simp only[go_sem];refine Q3 (zi9 s a (by omega)) rfl ?_;simp only[go_sem];refine Q3 (zi9 t b (by omega)) rfl ?_;have UC:=zbn s a;have WS:=zbn t b;generalize iv s a=x at *
 generalize iv t b=y at *
 have c1:=zm3 (dig x.natAbs) (dig y.natAbs) (by omega) (by omega);have c2:=zm3 (dig y.natAbs) (dig x.natAbs) (by omega) (by omega);rw[Zx,Zx]at c1 c2;by_cases hx:x<0
 .by_cases hy:y<0
  .simp only[go_sem,hx,hy]
   refine Q3 c2 rfl ?_;simp only[go_sem];unfold QY
   repeat' split
   all_goals omega
  .simp only[go_sem,hx,hy]
   unfold QY;rw[Qc (by omega)]
 .by_cases hy:y<0
  .simp only[go_sem,hx,hy]
   unfold QY;rw[Qb (by omega),Qc (by omega)]
  .simp only[go_sem,hx,hy]
   refine Q3 c1 rfl ?_;simp only[go_sem];unfold QY
   repeat' split
   all_goals omega
theorem zvb(neg:Bool)(mag:List Nat)(hl:mag.length<=9223372036854775807):Q9 prog 35 [gI neg mag] (tI .i64 (iv neg mag).sign):=by
 refine QJ QC call35 func35 rfl ntmps35 results35 (by simp) (by decide) ?_;simp only[go_sem];have Xy:=zyq neg mag hl;by_cases h:IsI neg mag
 .rw[Qc h]at Xy
  rw[zo7 h];refine Q3 Xy rfl ?_;simp only[go_sem];refine Q3 (zgt mag) rfl ?_;by_cases h0:mag.length=0
  .simp only[go_sem,h0]
  .simp only[go_sem,h0]
   cases neg
   .simp only[go_sem]
   .simp only[go_sem]
 .rw[Qb h]at Xy
  have e:iv neg mag=0:=Qb h;rw[e];refine Q3 Xy rfl ?_;simp only[go_sem];refine Q3 (zgt []) rfl ?_;simp only[go_sem];rfl
theorem zyj(l:LL)(hl:l.1.length<1000000000)(hb:∀ m∈l.1,m.2.2.length<=9223372036854775807)(hk:l.2.2.length<=9223372036854775807):Q9 prog 50 [gL l] (tB (decide (IsL l))):=by
 refine QJ QC call50 func50 rfl ntmps50 results50 (by simp) (by decide) ?_;have hK:=zlP l.2.1 l.2.2 (by omega);simp only[go_sem];refine QK (fun p:Nat×Int=>stL 35 [(1,.one (.ptr 1 0)),(3,litI .i64 p.2),(7,.one (.t (eL cM l.1))),(8,litI .i64 l.1.length),(9,litI .i64 p.1)] [(1,[.t (eL cM l.1),.t (.lit (.bool l.2.1)),.t (eN l.2.2)])]) (fun p=>p.1<=l.1.length/\(IsM (-1) l.1↔IsM p.2 (l.1.drop p.1))) (fun p=>l.1.length-p.1) (0,-1) ?_ ⟨Qk _,by rw[wbM]⟩ ?_
 .refine Q7 rfl ?_ ?_ rfl rfl<;>simp only[go_sem]<;>simp
 .rintro⟨i,n⟩ ⟨hi,Y9⟩
  simp only at hi Y9;simp only[go_sem];refine QI (fun Yw=>?_) (fun YG=>?_)
  .have Yv:i<l.1.length:=by omega
   rw[waw Yv]at Y9;have Y1:QM cM l.1 i=cM l.1[i]:=Q8 Yv;have hm:=hb _ (Qh Yv);have h1:=zlP l.1[i].2.1 l.1[i].2.2 (by omega);have h2:=zvb l.1[i].2.1 l.1[i].2.2 (by omega);generalize l.1[i]=m at *
   simp only[go_sem,Y1,Yw];refine⟨by omega,?_⟩;by_cases c1:m.1<=n
   .have e:decide (IsL l)=false:=wad fun h=>by have:=(Y9.1 h.1).1;omega
    rw[e];simp only[go_sem,c1];try rfl
   .simp only[go_sem,c1]
    refine Q3 h1 rfl ?_;by_cases c2:IsI m.2.1 m.2.2
    .simp only[go_sem,c2]
     refine Q3 h2 rfl ?_;by_cases c3:iv m.2.1 m.2.2=0
     .have e:decide (IsL l)=false:=wad fun h=>(Y9.1 h.1).2.2.1 c3
      rw[e,c3];have e0:(0:Int).sign=0:=rfl;simp only[go_sem,e0];try rfl
     .have hne:=zcx c3
      simp only[go_sem,hne];refine⟨(i+1,m.1),⟨Yv,?_⟩,(by show l.1.length-(i+1)<l.1.length-i;omega),?_⟩
      .rw[Y9]
       exact⟨fun h=>h.2.2.2,fun h=>⟨by omega,c2,c3,h⟩⟩
      .refine Q7 rfl ?_ ?_ rfl rfl<;>(iterate 3((try simp only[go_sem]);try simp(disch:=omega)only[Q6,QE,QG,Q8]))<;>simp
    .have e:decide (IsL l)=false:=wad fun h=>c2 (Y9.1 h.1).2.1
     rw[e];simp only[go_sem,c2];try rfl
  .obtain rfl:i=l.1.length:=by omega
   rw[wa5]at Y9;have hM:IsM (-1) l.1:=Y9.2 trivial;have e:decide (IsL l)=decide (IsI l.2.1 l.2.2):=wax.2 ⟨fun h=>h.2,fun h=>⟨hM,h⟩⟩;rw[e];simp only[go_sem];refine Q3 hK rfl ?_;simp only[go_sem]
theorem zwT(l:LL)(hl:l.1.length<1000000000)(hb:∀ m∈l.1,m.2.2.length<=9223372036854775807)(hk:l.2.2.length<=9223372036854775807):Q9 prog 12 [gL l] (tB (decide (IsL l))):=by
 refine QJ QC call12 func12 rfl ntmps12 results12 (by simp) (by decide) ?_;have hK:=zlM l.2.1 l.2.2 (by omega);simp only[go_sem];refine QK (fun p:Nat×Int=>stL 51 [(1,.one (.ptr 1 0)),(3,litI .i64 p.1)] [(1,[.t (eL cM l.1),.t (.lit (.bool l.2.1)),.t (eN l.2.2)])])
  (fun p=>p.1<=l.1.length/\(IsM (-1) l.1↔IsM p.2 (l.1.drop p.1))/\(p.1=0/\p.2 = -1\/0<=p.2/\∃ j,∃ h:j<l.1.length,p.1=j+1/\l.1[j].1=p.2)) (fun p=>l.1.length-p.1) (0,-1) ?_ ⟨Qk _,by rw[wbM],.inl ⟨rfl,rfl⟩⟩ ?_
 ·(refine Q7 rfl ?_ ?_ ?_ ?_<;>(try simp only[go_sem,QA])<;>(try simp))
 .rintro⟨i,n⟩ ⟨hi,Y9,YF⟩
  simp only at hi Y9 YF;simp only[go_sem];refine QI (fun Yw=>?_) (fun YG=>?_)
  .have Yv:i<l.1.length:=by omega
   rw[waw Yv]at Y9;have Y1:QM cM l.1 i=cM l.1[i]:=Q8 Yv;have hm:=hb _ (Qh Yv);have h1:=zlM l.1[i].2.1 l.1[i].2.2 (by omega);have h2:=zva l.1[i].2.1 l.1[i].2.2 (by omega);have Uk:(l.1[i].1:Int)=l.1[i].1:=rfl;have Xs:∀ (h:0<=l.1[i].1),0<=l.1[i].1/\∃ j,∃ h:j<l.1.length,i+1=j+1/\l.1[j].1=l.1[i].1:=fun h=>⟨h,i,Yv,rfl,rfl⟩
   generalize l.1[i]=m at *
   have bad:¬n<m.1->decide (IsL l)=false:=fun h=>wad fun hh=>h (Y9.1 hh.1).1
   have rest:∀ {σ:St} {Q:Exit->St->Prop} {c:Code},True:=trivial;have Ei : -1<=n:=by rcases YF with⟨_,h⟩|⟨h,_⟩<;>omega
   by_cases c0:m.1<0
   .rw[bad (by clear YF Xs;omega)]
    have c0':(m.1<0)=True:=Qf c0;simp only[go_sem,Y1,Yw];refine⟨by omega,?_⟩;refine Q4 0 rfl ?_;simp only[go_sem,c0'];try rfl
   .have c0':(m.1<0)=False:=Ql c0
    by_cases c1:n<m.1
    .have tail:m.1<=n↔False:=⟨fun h=>by omega,False.elim⟩
     rcases YF with⟨rfl,rfl⟩|⟨Xl,j,hj,rfl,hjn⟩
     .simp only[go_sem,Y1,Yw]
      refine⟨by omega,?_⟩;refine Q4 0 rfl ?_;simp only[go_sem,c0'];refine Q3 h1 rfl ?_;by_cases c2:IsI m.2.1 m.2.2
      .simp only[go_sem,c2]
       refine Q3 h2 rfl ?_;by_cases c3:iv m.2.1 m.2.2=0
       .have e:decide (IsL l)=false:=wad fun h=>(Y9.1 h.1).2.2.1 c3
        rw[e,c3];have e0:(0:Int).sign=0:=rfl;simp only[go_sem,e0];try rfl
       .have hne:=zcx c3
        simp only[go_sem,hne];refine⟨(0+1,m.1),⟨Yv,?_,.inr (Xs (by omega))⟩,(by show l.1.length-(0+1)<l.1.length-0;omega),?_⟩
        .rw[Y9]
         exact⟨fun h=>h.2.2.2,fun h=>⟨c1,c2,c3,h⟩⟩
        ·(refine Q7 rfl ?_ ?_ ?_ ?_<;>(try simp only[go_sem,QA,show IntKind.wrap .i64 1=1 from rfl])<;>(try simp))
      .have e:decide (IsL l)=false:=wad fun h=>c2 (Y9.1 h.1).2.1
       rw[e];simp only[go_sem,c2];try rfl
     .have Jc:QM cM l.1 j=cM l.1[j]:=Q8 hj
      have c1':(m.1<=l.1[j].1)=False:=Ql (by rw[hjn];omega)
      (iterate 3((try simp only[go_sem,Y1,Yw]);try simp(disch:=omega)only[Q6,QE,QG,Q8,Y1,Yw]))
      refine⟨by omega,?_⟩;refine Q4 0 rfl ?_
      (iterate 3((try simp only[go_sem,c0',Jc,c1',show(j:Int)+1-1=(j:Int) by omega]);try simp(disch:=omega)only[Q6,QE,QG,Q8,c0',Jc,c1',show(j:Int)+1-1=(j:Int) by omega]))
      refine⟨by omega,?_⟩;refine Q3 h1 rfl ?_;by_cases c2:IsI m.2.1 m.2.2
      .simp only[go_sem,c2]
       refine Q3 h2 rfl ?_;by_cases c3:iv m.2.1 m.2.2=0
       .have e:decide (IsL l)=false:=wad fun h=>(Y9.1 h.1).2.2.1 c3
        rw[e,c3];have e0:(0:Int).sign=0:=rfl;simp only[go_sem,e0];try rfl
       .have hne:=zcx c3
        (iterate 3((try simp only[go_sem,hne]);try simp(disch:=omega)only[Q6,QE,QG,Q8,hne]))
        refine⟨(j+1+1,m.1),⟨Yv,?_,.inr (Xs (by omega))⟩,(by show l.1.length-(j+1+1)<l.1.length-(j+1);omega),?_⟩
        .rw[Y9]
         exact⟨fun h=>h.2.2.2,fun h=>⟨c1,c2,c3,h⟩⟩
        ·(refine Q7 rfl ?_ ?_ ?_ ?_<;>(try simp only[go_sem,QA,Q6 (n:=(j:Int)+1+1) (by omega) (by omega)])<;>(try simp))
      .have e:decide (IsL l)=false:=wad fun h=>c2 (Y9.1 h.1).2.1
       rw[e];simp only[go_sem,c2];try rfl
    .rw[bad c1]
     rcases YF with⟨rfl,rfl⟩|⟨Xl,j,hj,rfl,hjn⟩
     .omega
     .have Jc:QM cM l.1 j=cM l.1[j]:=Q8 hj
      have c1':(m.1<=l.1[j].1)=True:=Qf (by rw[hjn];omega)
      (iterate 3((try simp only[go_sem,Y1,Yw]);try simp(disch:=omega)only[Q6,QE,QG,Q8,Y1,Yw]))
      refine⟨by omega,?_⟩;refine Q4 0 rfl ?_
      (iterate 3((try simp only[go_sem,c0',Jc,c1',show(j:Int)+1-1=(j:Int) by omega]);try simp(disch:=omega)only[Q6,QE,QG,Q8,c0',Jc,c1',show(j:Int)+1-1=(j:Int) by omega]))
      refine⟨by omega,?_⟩;omega
  .obtain rfl:i=l.1.length:=by omega
   rw[wa5]at Y9;have hM:IsM (-1) l.1:=Y9.2 trivial;have e:decide (IsL l)=decide (IsI l.2.1 l.2.2):=wax.2 ⟨fun h=>h.2,fun h=>⟨hM,h⟩⟩;rw[e];simp only[go_sem];refine Q3 hK rfl ?_;simp only[go_sem]
theorem zsR(ls:List LL)(n:Int)(Ei : -9223372036854775808<=n)(OB:n<9223372036854775808)(hl:ls.length<1000000000)(h:∀ l∈ls,l.1.length<1000000000/\(∀ m∈l.1,m.2.2.length<=9223372036854775807/\-9223372036854775808<=m.1/\m.1<9223372036854775808)/\l.2.2.length<=9223372036854775807) :
  Q9 prog 30 [.one (eL cL ls),tI .i64 n] (tI .i64 (zd7 ls n)):=by
 refine QJ QC call30 func30 rfl ntmps30 results30 (by simp) (by decide) ?_;unfold zd7;by_cases c1:60<ls.length
 .rw[Qc (.inl c1)]
  have c1':((60:Int)<(ls.length:Int))=True:=Qf (by omega);simp only[go_sem,c1'];try rfl
 .have c1':((60:Int)<(ls.length:Int))=False:=Ql (by omega)
  by_cases c2:40<n
  .rw[Qc (.inr c2)]
   have c2':((40:Int)<n)=True:=Qf c2;simp only[go_sem,c1',c2'];try rfl
  .rw[Qb (by rintro(h|h)<;>contradiction)]
   have c2':((40:Int)<n)=False:=Ql c2;simp only[go_sem,c1',c2'];refine QK (fun i:Nat=>stL 49 [(1,litI .i64 n),(14,.one (.t (eL cL ls))),(15,litI .i64 ls.length),(16,litI .i64 i)] []) (fun i=>i<=ls.length/\∀ l∈ls.take i,¬zbH n l) (fun i=>ls.length-i) 0 ?_ ⟨Qk _,by rw[wao];intro m hm;cases hm⟩ ?_
   ·(refine Q7 rfl ?_ ?_ ?_ ?_<;>(try simp only[go_sem,QA])<;>(try simp))
   .rintro i ⟨hi,Yy⟩
    simp only[go_sem];refine QI (fun Yw=>?_) (fun YG=>?_)
    .have Yv:i<ls.length:=by omega
     have Y1:QM cL ls i=cL ls[i]:=Q8 Yv;have Uw:=h _ (Qh Yv);have o1:=zyj ls[i] Uw.1 (fun m hm=>(Uw.2.1 m hm).1) Uw.2.2;have Xf:zbH n ls[i]->(if(∃ l∈ls,zbH n l)\/n<0 then(10:Int)else 0)=10:=fun h=>Qc (.inl ⟨_,Qh Yv,h⟩)
     have Yx:¬zbH n ls[i]->∀ l∈ls.take (i+1),¬zbH n l:=fun h m hm=>by
      rw[Zd Yv]at hm;rcases wan.1 hm with hm|hm
      .exact Yy m hm
      .obtain rfl:=Qr.1 hm;exact h
     generalize ls[i]=l at *
     simp only[go_sem,Y1,Yw]
     (repeat(refine Qg (by omega) ?_))
     by_cases d1:IsL l
     .have o1:=zbV o1 d1
      by_cases d2:n<0
      .have d2':(n<0)=True:=Qf d2
       rw[Xf (.inr (.inl d2))];refine Q3 o1 rfl ?_;simp only[go_sem,d2'];try rfl
      .have d2':(n<0)=False:=Ql d2
       by_cases d3:l.1=[]
       .have d3':((0:Int)<(l.1.length:Int))=False:=Ql (by rw[d3];decide)
        refine Q3 o1 rfl ?_;simp only[go_sem,d2',d3'];refine⟨i+1,⟨Yv,Yx (fun h=>h.elim (fun h=>h d1) fun h=>h.elim d2 fun h=>h.1 d3)⟩,(by show ls.length-(i+1)<ls.length-i;omega),?_⟩
        (refine Q7 rfl ?_ ?_ ?_ ?_<;>(try simp only[go_sem,QA,Q6 (n:=(i:Int)+1) (by omega) (by omega)])<;>(try simp))
       .have hp:=wa6.2 d3
        have d3':((0:Int)<(l.1.length:Int))=True:=Qf (by omega);have hw:IntKind.wrap .i64 ((l.1.length:Int)-1)=((l.1.length-1:Nat):Int):=by rw[Q6 (by omega) (by omega)];omega
        have hk:l.1.length-1<l.1.length:=by omega
        have Ue:QM cM l.1 (l.1.length-1)=cM l.1[l.1.length-1]:=Q8 hk;have YF:zdY l=l.1[l.1.length-1].1:=by unfold zdY;rw[zfZ d3]
        rw[show l.1.length-1=l.1.length-1 from rfl]at hw;generalize l.1[l.1.length-1]=m at *
        obtain⟨k,VJ⟩:∃ k,k=l.1.length-1:=⟨_,rfl⟩
        rw[<-VJ]at hw Ue hk;have Vd:((0:Int)<=(k:Int))=True:=Qf (by omega);have Vr:((k:Int)<(l.1.length:Int))=True:=Qf (by omega);by_cases d4:n<=m.1
        .have d4':(n<=m.1)=True:=Qf d4
         rw[Xf (.inr (.inr ⟨d3,by rw[YF];exact d4⟩))];refine Q3 o1 rfl ?_;simp only[go_sem,d2',d3',hw,Ue,Vd,Vr,d4'];try rfl
        .have d4':(n<=m.1)=False:=Ql d4
         refine Q3 o1 rfl ?_;simp only[go_sem,d2',d3',hw,Ue,Vd,Vr,d4'];refine⟨i+1,⟨Yv,Yx (fun h=>h.elim (fun h=>h d1) fun h=>h.elim d2 fun h=>d4 (by rw[<-YF];exact h.2))⟩,(by show ls.length-(i+1)<ls.length-i;omega),?_⟩
         (refine Q7 rfl ?_ ?_ ?_ ?_<;>(try simp only[go_sem,QA,Q6 (n:=(i:Int)+1) (by omega) (by omega)])<;>(try simp))
     .have o1:=zcf o1 d1
      rw[Xf (.inl d1)];refine Q3 o1 rfl ?_;simp only[go_sem];try rfl
    .obtain rfl:i=ls.length:=by omega
     rw[Q1]at Yy;by_cases d2:n<0
     .have d2':(n<0)=True:=Qf d2
      rw[Qc (.inr d2)];simp only[go_sem,d2'];try rfl
     .have d2':(n<0)=False:=Ql d2
      rw[Qb (fun h=>h.elim (fun⟨l,h1,h2⟩=>Yy l h1 h2) d2)];simp only[go_sem,d2'];try rfl
end Go.Proofs.YtlgjjcmljmjenaaGreat
