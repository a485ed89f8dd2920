/- At every input the call answers true and leaves its arguments as they were; no conditions. -/
import Derived.Test.YtlgjjcmljmjenaaGreatAd
import Derived.Test.YtlgjjcmljmjenaaGreatNa
import Derived.Test.YtlgjjcmljmjenaaGreatTa
set_option linter.unusedSimpArgs false
set_option linter.unusedVariables false
set_option maxRecDepth 100000
set_option maxHeartbeats 1000000
namespace Go.Proofs.YtlgjjcmljmjenaaGreat
open Go Go.Abs Go.Proofs.Tryz
attribute [go_sem] reduceIte Nat.reduceEqDiff Nat.reduceLT Nat.reduceLeDiff Nat.reduceAdd Nat.reduceSub Nat.reduceMul Nat.reducePow Int.reduceNe Int.reduceLT Int.reduceLE Int.reduceEq Int.reduceToNat Int.reduceNeg Int.reduceAdd Int.reduceSub reduceCtorEq not_false_eq_true not_true_eq_false ne_eq
theorem QC:prog.follows .mixedOrders=true:=by kernel_rfl
def Zo(n:Nat):List T:=[.lit (.int .u32 (n:Int))]
attribute [go_sem] Zo
theorem Z4(x:Nat):(Zo x).length=1:=rfl
abbrev eN(xs:List Nat):T:=eL Zo xs
abbrev cN(xs:List Nat):List C:=Q5 Zo xs
abbrev tN(xs:List Nat):TV:=.one (eN xs)
abbrev aN(xs:List Nat):AV:=.one (.t (eN xs))
abbrev tB(b:Bool):TV:=.one (.lit (.bool b))
abbrev tI(k:IntKind)(n:Int):TV:=.one (.lit (.int k n))
theorem zaY{xs:List Nat}{i:Nat}(hi:i<xs.length):(cN xs).drop i = .t (.lit (.int .u32 (xs[i]:Int)))::cN (xs.drop (i+1)):=by
 have:=zio (f:=Zo) (sz:=1) Z4 hi;rwa[wah]at this
theorem zxU{xs:List Nat}{i:Nat}(hi:i<xs.length){y:Nat}:Yh (cN xs) i [.t (.lit (.int .u32 (y:Int)))]=cN (xs.set i y):=by
 have:=zgU (f:=Zo) (sz:=1) Z4 hi (y:=y);rwa[wah]at this
theorem za8{xs:List Nat}:(cN xs).length=xs.length:=by rw[zcC Z4,wah]
theorem za3{xs:List Nat}:(cN xs).all zd4=true:=by
 simp only[cN,Q5,wai,Qp];rintro x ⟨y,_,rfl⟩;rfl
theorem zkX(xs:List Nat)(hl:xs.length<30000000000000):Q9 prog 112 [tN xs] (tB (decide (IsN xs))):=by
 refine QJ QC call112 func112 rfl ntmps112 results112 (by simp) (by decide) ?_;simp only[go_sem];refine QK (fun i:Nat=>stL 26 [(0,.one (.t (eN xs))),(5,.one (.t (eN xs))),(6,litI .i64 xs.length),(7,litI .i64 i)] []) (fun i=>i<=xs.length/\∀ j (h:j<xs.length),j<i->xs[j]<1000000000) (fun i=>xs.length-i) 0 ?_ ⟨Qk _,fun j h hj=>Qo hj (waO _)⟩ ?_
 .refine Q7 rfl ?_ ?_ rfl rfl<;>simp only[go_sem]<;>simp
 .rintro i ⟨hi,YK⟩
  simp only[go_sem];refine QI (fun Yw=>?_) (fun YG=>?_)
  .have Yv:i<xs.length:=by omega
   simp only[go_sem,Q8 Yv,Yw];refine⟨by omega,QI (fun h=>?_) (fun h=>?_)⟩
   .simp only[go_sem]
    symm;simp only[decide_eq_false_iff_not];intro hc;have:=hc.1 xs[i] (Qh _);simp only[BB]at this;omega
   .simp only[go_sem]
    refine⟨i+1,⟨Yv,fun j hj K5=>?_⟩,(by show xs.length-(i+1)<xs.length-i;omega),?_⟩
    .by_cases e:j=i
     .subst e;omega
     .exact YK j hj (by omega)
    .refine Q7 rfl ?_ ?_ rfl rfl<;>simp only[go_sem,Q6 (n:=(i:Int)+1) (by omega) (by omega)]<;>simp
  .have Ua:i=xs.length:=by omega
   subst Ua;have hall:∀ x∈xs,x<BB:=fun x hx=>by
    obtain⟨j,hj,rfl⟩:=waK.1 hx;exact YK j hj hj
   simp only[go_sem];cases hx:xs with
   |nil =>
    simp only[go_sem];rfl
   |cons x l =>
    rw[hx]at hl hall;simp only[Qe]at hl;have hne:¬((l.length:Int)+1=0):=by omega
    have Y0:l.length<(x::l).length:=by simp
    (iterate 3((try simp only[go_sem,hne,show(l.length:Int)+1-1=(l.length:Int) by omega]);try simp(disch:=omega)only[Q6,Q8]))
    have e:(x::l).getLast? = some ((x::l)[l.length]):=by simp[wco]
    have Y9:IsN (x::l)↔(x::l)[l.length]≠0:=by
     unfold IsN;rw[e];simp only[ne_eq,wa1];exact⟨fun h=>h.2,fun h=>⟨hall,h⟩⟩
    refine⟨by omega,?_⟩;rw[wax,Y9];omega
theorem zcs(xs:List Nat)(hl:xs.length<30000000000000):Q9 prog 153 [tN xs] (tN (held xs)):=by
 refine QJ QC call153 func153 rfl ntmps153 results153 (by simp) (by decide) ?_;simp only[go_sem];refine Q3 (zkX xs hl) rfl ?_;by_cases h:IsN xs
 .simp only[go_sem,h,held]
  exact Yr
 .simp only[go_sem,h,held]
  exact zcz
theorem zfO(xs:List Nat)(hl:xs.length<30000000000000):Q9 prog 157 [tN xs] (tN (trimZ xs)):=by
 refine QJ QC call157 func157 rfl ntmps157 results157 (by simp) (by decide) ?_;simp only[go_sem];refine QK (fun ys:List Nat=>stL 21 [(0,aN ys)] []) (fun ys=>ys.length<=xs.length/\trimZ ys=trimZ xs) (fun ys=>ys.length) xs ?_ ⟨Qd _,rfl⟩ ?_
 .refine Q7 rfl ?_ ?_ rfl rfl<;>simp only[go_sem]<;>simp
 .rintro ys ⟨hi,YK⟩
  simp only[go_sem];rcases List.eq_nil_or_concat ys with rfl|⟨l,x,rfl⟩
  .simp only[go_sem]
   rw[<-YK];exact Yr
  .simp only[List.concat_eq_append]at *
   have Y0:(l++[x]).length=l.length+1:=by simp
   rw[Y0]at hi;have Yw:l.length<(l++[x]).length:=by omega
   have YQ:(0:Int)<(l.length:Int)+1:=by omega
   have hg:(l++[x])[l.length]=x:=by simp
   (iterate 3((try simp only[go_sem,YQ,Y0,show(l.length:Int)+1-1=(l.length:Int) by omega,hg]);try simp(disch:=omega)only[Q6,Q8]))
   refine⟨by omega,QI (fun h=>?_) (fun h=>?_)⟩
   .have hx:x=0:=by omega
    subst hx
    (iterate 3((try simp only[go_sem,Y0,show(l.length:Int)+1-1=(l.length:Int) by omega,show(l++[0]).take l.length=l by simp]);try simp(disch:=omega)only[Q6,show(0:Int)<=(l.length:Int) by omega]))
    refine⟨⟨Qk _,by omega⟩,l,⟨by omega,by rw[<-YK,zii]⟩,by simp,?_⟩;refine Q7 rfl ?_ ?_ rfl rfl<;>simp only[go_sem]<;>simp
   .simp only[go_sem]
    rw[<-YK,zgW (by simp;omega)];exact Yr
theorem ziX(n:Nat)(hn:n<18446744073709551616):Q9 prog 147 [tI .u64 n] (tN (dig n)):=by
 refine QJ QC call147 func147 rfl ntmps147 results147 (by simp) (by decide) ?_;simp only[go_sem];have PY:(dig n).length<=3:=zbJ (by simp only[BB];omega);refine QK (fun p:Nat×List Nat=>match p.2 with
   |[]=>stL 15 [(0,litI .u64 p.1),(3,.one (.t (.seq (some true) [])))] []
   |_::_=>stL 15 [(0,litI .u64 p.1),(3,.one (.vec 13 1 0 p.2.length))] [(13,cN p.2)]) (fun p=>p.1<=n/\p.2++dig p.1=dig n) (fun p=>p.1) (n,[]) ?_ ⟨Qd _,rfl⟩ ?_
 .refine Q7 rfl ?_ ?_ rfl rfl<;>simp only[go_sem]<;>simp
 .rintro⟨m,l⟩ ⟨hm,Yy⟩
  simp only at hm Yy;have Y0:l.length<=3:=by have:=congrArg List.length Yy;simp at this;omega
  by_cases h0:m=0
  .subst h0
   rw[Zi,wal]at Yy;rw[<-Yy];cases l with
   |nil=>simp only[go_sem];exact zcz
   |cons x t=>simp only[go_sem];exact zf7 Z4 (by simp only[go_sem]) rfl
  .have YQ:(0:Int)<(m:Int):=by omega
   have hw:m/1000000000<=m:=wci _ _;have KL:m%1000000000<1000000000:=wav _ (by decide);cases l with
   |nil =>
    (iterate 3((try simp only[go_sem,YQ,Zu]);try simp(disch:=omega)only[QG]))
    refine zcr (Qd _) (sz:=1) (bytes:=4) (by simp only[go_sem,QV]<;>decide) Z4 [m%1000000000] (by simp only[go_sem]<;>rfl) (by simp only[go_sem]<;>rfl) rfl (by simp) (by simp) (by simp only[go_sem]) (by decide) ?_
    (iterate 3((try simp only[go_sem,QS]);try simp(disch:=omega)only[QE]))
    refine⟨(m/1000000000,[m%1000000000]),⟨by omega,?_⟩,by show m/1000000000<m;omega,?_⟩
    .rw[<-Yy];simp only[wbw];rw[zce h0];rfl
    .refine Q7 rfl ?_ ?_ rfl ?_<;>simp only[go_sem,QH]<;>simp
   |cons x t =>
    (iterate 3((try simp only[go_sem,YQ,Zu]);try simp(disch:=omega)only[QG]))
    refine zay (Qd _) (sz:=1) (bytes:=4) (by simp only[go_sem,QV]<;>decide) Z4 (x::t) [m%1000000000] (by simp only[go_sem]<;>rfl) rfl (by simp only[go_sem]) (by simp only[go_sem]<;>rfl) rfl (by simp only[Qe]at *;simp;omega) (by decide) ?_
    (iterate 3((try simp only[go_sem,QS]);try simp(disch:=omega)only[QE]))
    refine⟨(m/1000000000,x::t++[m%1000000000]),⟨by omega,?_⟩,by show m/1000000000<m;omega,?_⟩
    .rw[<-Yy,zce h0];simp
    .refine Q7 rfl ?_ ?_ rfl ?_<;>simp only[go_sem,QH]<;>simp
def QY(a b:Int):Int:=if a<b then -1 else if b<a then 1 else 0
theorem zmT(a:Int):Q9 prog 170 [tI .i64 a] (tB false):=by
 refine QJ QC call170 func170 rfl ntmps170 results170 (by simp) (by decide) ?_;simp only[go_sem,eq_self,not_true]
theorem zmU(a:Int):Q9 prog 171 [tI .u32 a] (tB false):=by
 refine QJ QC call171 func171 rfl ntmps171 results171 (by simp) (by decide) ?_;simp only[go_sem,eq_self,not_true]
theorem zrS(a b:Int):Q9 prog 154 [tI .i64 a,tI .i64 b] (tI .i64 (QY a b)):=by
 refine QJ QC call154 func154 rfl ntmps154 results154 (by simp) (by decide) ?_;simp only[go_sem];refine Q3 (zmT a) rfl ?_;simp only[go_sem];refine Q3 (zmT b) rfl ?_;simp only[go_sem];refine QI (fun h=>?_) (fun h=>?_)
 .simp only[go_sem,QY,h]
 .simp only[go_sem]
  refine QI (fun h'=>?_) (fun h'=>?_)
  .simp only[go_sem,QY,h,h']
  .simp only[go_sem,QY,h,h']
theorem zrT(a b:Int):Q9 prog 155 [tI .u32 a,tI .u32 b] (tI .i64 (QY a b)):=by
 refine QJ QC call155 func155 rfl ntmps155 results155 (by simp) (by decide) ?_;simp only[go_sem];refine Q3 (zmU a) rfl ?_;simp only[go_sem];refine Q3 (zmU b) rfl ?_;simp only[go_sem];refine QI (fun h=>?_) (fun h=>?_)
 .simp only[go_sem,QY,h]
 .simp only[go_sem]
  refine QI (fun h'=>?_) (fun h'=>?_)
  .simp only[go_sem,QY,h,h']
  .simp only[go_sem,QY,h,h']
theorem zeV{xs:List Nat}{i:Nat}(hi:i<xs.length):val xs=val (xs.take i)+BB^i*(xs[i]+BB*val (xs.drop (i+1))):=by
 have h1:xs=xs.take i++xs.drop i:=(wb2 i xs).symm;have h2:xs.drop i=xs[i]::xs.drop (i+1):=waw hi
 conv=>lhs;rw[h1,za0,h2]
 rw[wat,wbs (by omega)];rfl
theorem zdC{xs ys:List Nat}(hx:IsN xs)(hy:IsN ys)(h:xs.length<ys.length):val xs<val ys:=by
 have h1:=zab hx.1;have h2:=zqL hy (by intro e;subst e;simp at h);have h3:BB^xs.length<=BB^(ys.length-1):=waT (by decide) (by omega);omega
theorem zfS{xs ys:List Nat}{i:Nat}(hx:∀ x∈xs,x<BB)(hi:i<xs.length)(Y6:i<ys.length)(hd:xs.drop (i+1)=ys.drop (i+1))(h:xs[i]<ys[i]):val xs<val ys:=by
 rw[zeV hi,zeV Y6,hd];have h1:val (xs.take i)<BB^i:=by
  have:=zab (xs:=xs.take i) fun x Da=>hx x (waQ Da)
  rwa[wat,wbs (by omega)]at this
 have h2:BB^i*(xs[i]+BB*val (ys.drop (i+1))+1)<=BB^i*(ys[i]+BB*val (ys.drop (i+1))):=waz _ (by omega);rw[waf _ _ 1,wah]at h2;omega
theorem zfT(a b:List Nat)(ha:a.length<30000000000000)(hb:b.length<30000000000000):Q9 prog 121 [tN a,tN b] (tI .i64 (QY (vN a) (vN b))):=by
 refine QJ QC call121 func121 rfl ntmps121 results121 (by simp) (by decide) ?_;simp only[go_sem];refine Q3 (zcs a ha) rfl ?_;simp only[go_sem];refine Q3 (zcs b hb) rfl ?_;have FF:=zan a;have JJ:=zan b;have hA:=zag a;have hB:=zag b;unfold vN;generalize held a=x at *
 generalize held b=y at *
 simp only[go_sem];refine QI (fun h=>?_) (fun h=>?_)
 .simp only[go_sem]
  refine Q3 (zrS _ _) rfl ?_;simp only[go_sem];have:x.length≠y.length:=by omega
  rcases was x.length y.length with h1|h1
  .have:=zdC hA hB h1
   unfold QY;rw[Qc (by omega),Qc (by omega)]
  .have:=zdC hB hA (by omega)
   unfold QY;rw[Qb (by omega),Qc (by omega),Qb (by omega),Qc (by omega)]
 .have Y0:x.length=y.length:=by omega
  simp only[go_sem];refine QK (fun k:Nat=>stL 45 [(0,aN x),(1,aN y),(5,litI .i64 ((k:Int)-1))] []) (fun k=>k<=x.length/\x.drop k=y.drop k) (fun k=>k) x.length ?_ ⟨Qd _,by rw[wa5,Y0,wa5]⟩ ?_
  .refine Q7 rfl ?_ ?_ rfl rfl<;>simp only[go_sem,Q6 (n:=(x.length:Int)-1) (by omega) (by omega)]<;>simp
  .rintro k ⟨hk,hd⟩
   simp only[go_sem];refine QI (fun Yw=>?_) (fun YG=>?_)
   .obtain⟨i,rfl⟩:∃ i,k=i+1:=⟨k-1,by omega⟩
    have hx:i<x.length:=by omega
    have hy:i<y.length:=by omega
    have e:((i:Int)+1-1)=i:=by omega
    simp only[go_sem,e];refine Q4 0 rfl ?_
    (iterate 3((try simp only[go_sem]);try simp(disch:=omega)only[Q8]))
    refine⟨by omega,by omega,QI (fun h=>?_) (fun h=>?_)⟩
    .simp only[go_sem]
     refine Q4 0 rfl ?_
     (iterate 3((try simp only[go_sem]);try simp(disch:=omega)only[Q8]))
     refine⟨by omega,by omega,?_⟩;refine Q3 (zrT _ _) rfl ?_;simp only[go_sem];have hne:x[i]≠y[i]:=by omega
     rcases was x[i] y[i]with h1|h1
     .have:=zfS hA.1 hx hy hd h1
      unfold QY;rw[Qc (by omega),Qc (by omega)]
     .have:=zfS hB.1 hy hx hd.symm (by omega)
      unfold QY;rw[Qb (by omega),Qc (by omega),Qb (by omega),Qc (by omega)]
    .simp only[go_sem]
     refine⟨i,⟨by omega,?_⟩,waN i,?_⟩
     .rw[waw hx,waw hy,hd,show x[i]=y[i] by omega]
     .refine Q7 rfl ?_ ?_ rfl rfl<;>simp only[go_sem,Q6 (n:=(i:Int)-1) (by omega) (by omega)]<;>simp
   .have Vd:k=0:=by omega
    subst Vd;simp only[go_sem];have:x=y:=by simpa using hd
    subst this;unfold QY;rw[Qb (by omega),Qb (by omega)]
def msz(ll:List (List Nat)):Nat:=ll.foldl (fun m a=>max m a.length) 0
theorem zuy{l:List (List Nat)}{a:List Nat}:msz (l++[a])=max (msz l) a.length:=by simp[msz]
theorem Zd{α:Type}{l:List α}{i:Nat}(h:i<l.length):l.take (i+1)=l.take i++[l[i]]:=by
 rw[List.take_add_one,waa h];rfl
theorem zrZ{ll:List (List Nat)}:∀ {m:Nat},m<=ll.foldl (fun m a=>max m a.length) m/\∀ a∈ll,a.length<=ll.foldl (fun m a=>max m a.length) m:=by
 induction ll with
 |nil=>intro m;exact⟨Qd _,by simp⟩
 |cons b l ih =>
  intro m;simp only[wcW];have h:=@ih (max m b.length);refine⟨by have:=h.1;omega,fun a ha=>?_⟩;rcases wab.1 ha with rfl|ha
  .have:=h.1;omega
  .exact h.2 a ha
theorem zxX{ll:List (List Nat)}{a:List Nat}(h:a∈ll):a.length<=msz ll:=zrZ.2 a h
theorem zxY{ll:List (List Nat)}{N:Nat}(h:∀ a∈ll,a.length<=N):msz ll<=N:=by
 unfold msz
 suffices ∀ (m:Nat),m<=N->ll.foldl (fun m a=>max m a.length) m<=N from this 0 (Qk _)
 induction ll with
 |nil=>intro m hm;exact hm
 |cons b l ih =>
  intro m hm;exact ih (fun a ha=>h a (waj _ ha)) _ (by have:=h b (wam ..);show max m b.length<=N;omega)
def col(ll:List (List Nat))(k:Nat):Nat:=(ll.map fun a=>a.getD k 0).sum
def low(ll:List (List Nat))(k:Nat):Nat:=(ll.map fun a=>val (a.take k)).sum
theorem zek{a:List Nat}{k:Nat}:val (a.take (k+1))=val (a.take k)+BB^k*a.getD k 0:=by
 by_cases h:k<a.length
 .rw[Zd h,za0,wat,wbs (by omega)]
  simp[val,h]
 .rw[waL (by omega),waL (by omega)]
  simp[show a.length<=k by omega]
theorem zn1{ll:List (List Nat)}:low ll 0=0:=by
 unfold low
 induction ll with
 |nil=>rfl
 |cons a l ih=>rw[waq,wbu,ih];rfl
theorem zuz{ll:List (List Nat)}{k:Nat}:low ll (k+1)=low ll k+BB^k*col ll k:=by
 unfold low col
 induction ll with
 |nil=>rfl
 |cons a l ih=>rw[waq,wbu,ih,zek,waq,wbu,waq,wbu,waf];omega
theorem zn2{l:List (List Nat)}{a:List Nat}{k:Nat}:col (l++[a]) k=col l k+a.getD k 0:=by simp[col]
theorem zqs{ll:List (List Nat)}{k:Nat}(h:∀ a∈ll,∀ x∈a,x<BB):col ll k<=ll.length*999999999:=by
 unfold col
 induction ll with
 |nil=>simp
 |cons a l ih =>
  have:=ih fun b hb=>h b (waj _ hb)
  have h1:a.getD k 0<=999999999:=by
   by_cases hk:k<a.length
   .have:=h a (wam ..) a[k] (Qh hk)
    simp[hk];simp only[BB]at this;omega
   .simp[show a.length<=k by omega]
  simp only[waq,wbu,Qe];omega
theorem zxZ{ll:List (List Nat)}{n:Nat}(h:∀ a∈ll,∀ x∈a,x<BB)(hn:∀ a∈ll,a.length<=n)(hl:ll.length<BB):(ll.map val).sum<BB^(n+1):=by
 have h1:(ll.map val).sum<=ll.length*BB^n:=by
  clear hl
  induction ll with
  |nil=>simp
  |cons a l ih =>
   have:=ih (fun b hb=>h b (waj _ hb)) (fun b hb=>hn b (waj _ hb));have h1:=zab (h a (wam ..));have h2:BB^a.length<=BB^n:=waT (by decide) (hn a (wam ..));simp only[waq,wbu,Qe,war];omega
 have h2:0<BB^n:=waZ (by decide);have h3:ll.length*BB^n<BB*BB^n:=wdp hl h2;rw[waP,Qt (BB^n)];omega
def zd6(ll:List (List Nat))(k:Nat)(ds:List Nat)(c:Nat):Prop:=ds.length=k/\(∀ x∈ds,x<BB)/\c<=ll.length/\val ds+BB^k*c=low ll k
theorem zd6.next{ll:List (List Nat)}{k c:Nat}{ds:List Nat}(hs:zd6 ll k ds c)(h:∀ a∈ll,∀ x∈a,x<BB):zd6 ll (k+1) (ds++[(c+col ll k)%BB]) ((c+col ll k)/BB):=by
 obtain⟨h1,h2,h3,h4⟩:=hs;have hc:=zqs (k:=k) h;have hB:BB=1000000000:=rfl;refine⟨by simp[h1],?_,?_,?_⟩
 .intro x hx
  rcases wan.1 hx with hx|hx
  .exact h2 x hx
  .simp at hx;subst hx;exact wav _ (by decide)
 .rw[hB];omega
 .rw[za0,h1,zuz,<-h4]
  have:=wck (c+col ll k) BB;simp only[val,waR,wap];rw[waP,wae,wbg,<-waf,this,waf];omega
theorem zd6.done{ll:List (List Nat)}{k c:Nat}{ds:List Nat}(hs:zd6 ll (k+1) ds c)(h:∀ a∈ll,∀ x∈a,x<BB)(hn:∀ a∈ll,a.length<=k)(hl:ll.length<BB):trimZ ds=dig (ll.map val).sum:=by
 obtain⟨h1,h2,h3,h4⟩:=hs;rw[zcH h2];have e:low ll (k+1)=(ll.map val).sum:=by
  unfold low;congr 1;apply wau;intro a ha;rw[waL (by have:=hn a ha;omega)]
 have:=zxZ h hn hl;rw[e]at h4;have:c=0:=by
  rcases wcb c with h|h
  .exact h
  .have:BB^(k+1)*1<=BB^(k+1)*c:=waz _ h
   omega
 subst this;rw[<-h4,waR,wap]
def lst(a:List Nat):List T:=[eN a]
attribute [go_sem] lst
abbrev eLL(ll:List (List Nat)):T:=eL lst ll
abbrev aLL(ll:List (List Nat)):AV:=.one (.t (eLL ll))
theorem ze5{n:Nat}:Zg n [C.t (.lit (.int .u32 0))]=cN (List.replicate n 0):=zmL (f:=Zo) (x:=0)
theorem zaF{xs:List Nat}{i:Nat}(hi:i<xs.length){y:Nat}:(cN xs).take i++C.t (.lit (.int .u32 (y:Int)))::(cN xs).drop (i+1)=cN (xs.set i y):=by
 rw[<-zxU hi];simp[Yh]
theorem zg4{ds:List Nat}{k S y:Nat}(h:ds.length=k)(hk:k<S):(ds++List.replicate (S-k) 0).set k y=ds++[y]++List.replicate (S-(k+1)) 0:=by
 rw[wdO,Qb (by omega),h,wbl,show S-k=(S-(k+1))+1 by omega,wbp,List.set_cons_zero,waM];rfl
theorem zti(ll:List (List Nat))(hl:ll.length<1000000)(Y0:∀ a∈ll,a.length<10000000000000)(hb:∀ a∈ll,∀ x∈a,x<BB):Q9 prog 156 [.one (eLL ll)] (tN (dig (ll.map val).sum)):=by
 refine QJ QC call156 func156 rfl ntmps156 results156 (by simp) (by decide) ?_;simp only[go_sem];have GH:∀ i,msz (ll.take i)<10000000000000:=fun i=>by
  have:=zxY (ll:=ll.take i) (N:=9999999999999) fun a ha=>by have:=Y0 a (waQ ha);omega
  omega
 refine QK (fun i:Nat=>stL 59 [(0,aLL ll),(3,litI .i64 (msz (ll.take i))),(11,aLL ll),(12,litI .i64 ll.length),(13,litI .i64 i)] []) (fun i=>i<=ll.length) (fun i=>ll.length-i) 0 ?_ (Qk _) ?_
 .refine Q7 rfl ?_ ?_ rfl rfl<;>simp only[go_sem]<;>simp[msz]
 .intro i hi
  simp only[go_sem];refine QI (fun Yw=>?_) (fun YG=>?_)
  .have Yv:i<ll.length:=by omega
   have hm:=GH i;have JG:=Y0 _ (Qh Yv);simp only[go_sem,Q8 Yv,Yw];refine⟨by omega,?_⟩;refine zdK rfl (by simp only[go_sem]<;>rfl) (by simp only[go_sem]<;>rfl) (Qd _) ?_;simp only[go_sem];refine⟨i+1,Yv,(by show ll.length-(i+1)<ll.length-i;omega),?_⟩;have e:(if(ll[i].length:Int)>(msz (ll.take i):Int)then(ll[i].length:Int)else(msz (ll.take i):Int))=((max (msz (ll.take i)) ll[i].length:Nat):Int):=by split<;>omega
   refine Q7 rfl ?_ ?_ rfl rfl<;>simp only[go_sem,Q6 (n:=(i:Int)+1) (by omega) (by omega),Zd Yv,zuy,e]<;>simp
  .have Ua:i=ll.length:=by omega
   subst Ua;rw[Q1];have hm:=GH ll.length;rw[Q1]at hm
   (iterate 3((try simp only[go_sem]);try simp(disch:=omega)only[Q6]))
   refine⟨by omega,?_⟩;generalize hS:msz ll+1=S at *
   have G9:(msz ll:Int)+1=(S:Int):=by omega
   have Eo:IntKind.wrap .i64 (S:Int)=S:=Q6 (by omega) (by omega);refine QK (fun p:Nat×List Nat×Nat=>stL 59 [(0,aLL ll),(6,.one (.vec 24 1 0 S)),(7,litI .u64 p.2.2),(26,litI .i64 S),(27,litI .i64 p.1)] [(24,cN (p.2.1++List.replicate (S-p.1) 0))])
    (fun p=>p.1<=S/\zd6 ll p.1 p.2.1 p.2.2) (fun p=>S-p.1) (0,[],0) ?_ ⟨Qk _,rfl,by simp,Qk _,by rw[zn1];rfl⟩ ?_
   .refine Q7 rfl ?_ ?_ rfl ?_<;>simp only[go_sem,G9,QH,ze5]<;>simp
   .rintro⟨k,ds,c⟩ ⟨hk,hs⟩
    simp only at hk hs ⊢;simp only[go_sem];refine QI (fun Yw=>?_) (fun YG=>?_)
    .have Yv:k<S:=by omega
     have hc:=hs.2.2.1;simp only[go_sem];refine QK (fun j:Nat=>stL 59 [(0,aLL ll),(6,.one (.vec 24 1 0 S)),(7,litI .u64 ((c+col (ll.take j) k:Nat):Int)),(8,litI .i64 k),(26,litI .i64 S),(27,litI .i64 k),(30,aLL ll),(31,litI .i64 ll.length),(32,litI .i64 j)] [(24,cN (ds++List.replicate (S-k) 0))])
      (fun j=>j<=ll.length) (fun j=>ll.length-j) 0 ?_ (Qk _) ?_
     .refine Q7 rfl ?_ ?_ rfl ?_<;>simp only[go_sem,QH]<;>simp[col]
     .intro j hj
      simp only[go_sem];have Xp:=zqs (ll:=ll.take j) (k:=k) fun a ha=>hb a (waQ ha)
      rw[wat,wbs hj]at Xp;refine QI (fun Ky=>?_) (fun Ky=>?_)
      .have X2:j<ll.length:=by omega
       simp only[go_sem,Q8 X2,Ky];refine⟨by omega,QI (fun Ev=>?_) (fun Ev=>?_)⟩
       .have JH:k<ll[j].length:=by omega
        have hx:=hb _ (Qh X2) _ (Qh JH);simp only[BB]at hx
        (iterate 3((try simp only[go_sem,Q8 JH,Ev]);try simp(disch:=omega)only[Q6,QE]))
        refine⟨by omega,j+1,X2,(by show ll.length-(j+1)<ll.length-j;omega),?_⟩;have e:((c+col (ll.take (j+1)) k:Nat):Int)=((c+col (ll.take j) k:Nat):Int)+(ll[j][k]:Int):=by
         rw[Zd X2,zn2];simp[JH];omega
        refine Q7 rfl ?_ ?_ rfl ?_<;>(iterate 3((try simp only[go_sem,QH,e]);try simp(disch:=omega)only[Q6,QE,QG,Q8,QH,e]))<;>simp
       .simp only[go_sem]
        refine⟨j+1,X2,(by show ll.length-(j+1)<ll.length-j;omega),?_⟩;have e:(c+col (ll.take (j+1)) k)=(c+col (ll.take j) k):=by
         rw[Zd X2,zn2];simp[show ll[j].length<=k by omega]
        refine Q7 rfl ?_ ?_ rfl ?_<;>(iterate 3((try simp only[go_sem,QH,e]);try simp(disch:=omega)only[Q6]))<;>simp
      .obtain rfl:j=ll.length:=by omega
       rw[Q1]at Xp ⊢;have Yx:=hs.next hb;have KL:(c+col ll k)%1000000000<1000000000:=wav _ (by decide)
       (iterate 3((try simp only[go_sem,Zu,QS]);try simp(disch:=omega)only[Q6,QE,QG]))
       have Oh:(ds++List.replicate (S-k) 0).length=S:=by simp[hs.1];omega
       refine⟨⟨by omega,by omega⟩,by rw[za8];omega,?_⟩;refine⟨(k+1,ds++[(c+col ll k)%BB],(c+col ll k)/BB),⟨Yv,Yx⟩,(by show S-(k+1)<S-k;omega),?_⟩;refine Q7 rfl ?_ ?_ rfl ?_<;>simp only[go_sem,QH,zaF (show k<(ds++List.replicate (S-k) 0).length by omega),zg4 hs.1 Yv]<;>simp[BB]
    .obtain rfl:k=S:=by omega
     have JI:trimZ ds=dig (ll.map val).sum:=by
      rw[<-hS]at hs;exact hs.done hb (fun a ha=>zxX ha) (by simp only[BB];omega)
     simp only[go_sem];rw[wbl,wbX,wal];refine zbM 24 1 k rfl (zfO ds (by rw[hs.1];omega)) (by simp only[go_sem]<;>rfl) (by rw[<-hs.1];exact Yl Z4) ?_ ?_
     .simp only[go_sem]<;>rfl
     .simp only[go_sem]
      rw[JI];exact Yr
theorem znj(a b:List Nat)(ha:a.length<10000000000000)(hb:b.length<10000000000000):Q9 prog 122 [tN a,tN b] (tN (dig (vN a+vN b))):=by
 refine QJ QC call122 func122 rfl ntmps122 results122 (by simp) (by decide) ?_;simp only[go_sem];refine Q3 (zcs a (by omega)) rfl ?_;simp only[go_sem];refine Q3 (zcs b (by omega)) rfl ?_;simp only[go_sem];have FF:=zan a;have JJ:=zan b;refine zf9 (tvs':=[.one (.seq (some false) [[eN (held a)],[eN (held b)]])]) (zti [held a,held b] (by simp) (fun x hx=>by rcases wab.1 hx with rfl|hx;omega;obtain rfl:=Qr.1 hx;omega) (fun x hx=>by rcases wab.1 hx with rfl|hx;exact(zag a).1;obtain rfl:=Qr.1 hx;exact(zag b).1)) rfl (.cons fzW .nil) ?_;simp only[go_sem];rw[show[val (held a),val (held b)].sum=vN a+vN b by simp[vN]];exact Yr
def zdn(x y:List Nat)(k:Nat)(ds:List Nat)(c:Nat):Prop:=ds.length=k/\(∀ z∈ds,z<BB)/\c<=1/\val ds+val (y.take k)=val (x.take k)+BB^k*c
theorem zdn.step{x y ds:List Nat}{k c d c':Nat}(hs:zdn x y k ds c)(hd:d<BB)(hc:c'<=1)(h:d+y.getD k 0+c=x.getD k 0+BB*c'):zdn x y (k+1) (ds++[d]) c':=by
 obtain⟨h1,h2,h3,h4⟩:=hs;refine⟨by simp[h1],?_,hc,?_⟩
 .intro z hz
  rcases wan.1 hz with hz|hz
  .exact h2 z hz
  .simp at hz;subst hz;exact hd
 .rw[za0,h1,zek,zek]
  simp only[val,waR,wap];have:=congrArg (BB^k*·) h;simp only[waf]at this;rw[waP,wae];omega
theorem zdn.next{x y ds:List Nat}{k c d c':Nat}(hs:zdn x y k ds c)(hx:∀ z∈x,z<BB)(hy:∀ z∈y,z<BB)(hk:k<x.length)(h:(x[k]<c+y.getD k 0/\d=x[k]+BB-(c+y.getD k 0)/\c'=1)\/(c+y.getD k 0<=x[k]/\d=x[k]-(c+y.getD k 0)/\c'=0)):zdn x y (k+1) (ds++[d]) c':=by
 have h1:=hx _ (Qh hk);have h2:y.getD k 0<BB:=by
  by_cases h:k<y.length
  .simp[h];exact hy _ (Qh h)
  .simp[show y.length<=k by omega,BB]
 have h3:=hs.2.2.1;have e:x.getD k 0=x[k]:=by simp[hk]
 refine hs.step ?_ ?_ ?_<;>rw[show BB=1000000000 from rfl]at *<;>rcases h with⟨h,rfl,rfl⟩|⟨h,rfl,rfl⟩<;>omega
theorem zdn.done{x y ds:List Nat}{c:Nat}(hs:zdn x y x.length ds c)(hy:y.length<=x.length)(h:val y<val x):trimZ ds=dig (val x-val y):=by
 obtain⟨h1,h2,h3,h4⟩:=hs;rw[waL hy,Q1]at h4;have h5:=zab h2;rw[h1]at h5;have:c=0:=by
  rcases wcb c with h|h
  .exact h
  .obtain rfl:c=1:=by omega
   omega
 subst this;rw[zcH h2];congr 1;omega
theorem zkj(a b:List Nat)(ha:a.length<10000000000000)(hb:b.length<10000000000000):Q9 prog 125 [tN a,tN b] (tN (dig (vN a-vN b))):=by
 refine QJ QC call125 func125 rfl ntmps125 results125 (by simp) (by decide) ?_;simp only[go_sem];refine Q3 (zcs a (by omega)) rfl ?_;simp only[go_sem];refine Q3 (zcs b (by omega)) rfl ?_;simp only[go_sem];have UW:=zan a;have VU:=zan b;have hX:=zag a;have hY:=zag b;refine Q3 (zfT (held a) (held b) (by omega) (by omega)) rfl ?_;rw[show vN (held a)=vN a by rw[<-zgu,Zx],show vN (held b)=vN b by rw[<-zgu,Zx]];simp only[go_sem];refine QI (fun YZ=>?_) (fun WP=>?_)
 .simp only[go_sem]
  have:vN a<=vN b:=by
   unfold QY at YZ;split at YZ
   .omega
   .split at YZ<;>omega
  rw[show vN a-vN b=0 by omega,Zi];exact zcz
 .have Yw:vN b<vN a:=by
   unfold QY at WP;split at WP
   .omega
   .split at WP<;>omega
  unfold vN at Yw ⊢;generalize held a=x at *
  generalize held b=y at *
  have Ec:y.length<=x.length:=by
   rcases was x.length y.length with h|h
   .have:=zdC hX hY h;omega
   .exact h
  have hx:=hX.1;have hy:=hY.1
  (iterate 3((try simp only[go_sem]);try simp(disch:=omega)only[Q6,QE,QG,Q8]))
  refine⟨by omega,?_⟩;refine QK (fun p:Nat×List Nat×Nat=>stL 53 [(0,aN x),(1,aN y),(5,.one (.vec 20 1 0 x.length)),(6,litI .u32 p.2.2),(21,aN x),(22,litI .i64 x.length),(23,litI .i64 p.1)] [(20,cN (p.2.1++List.replicate (x.length-p.1) 0))])
   (fun p=>p.1<=x.length/\zdn x y p.1 p.2.1 p.2.2) (fun p=>x.length-p.1) (0,[],0) ?_ ⟨Qk _,rfl,by simp,Qk _,by simp[val]⟩ ?_
  .refine Q7 rfl ?_ ?_ rfl ?_<;>simp only[go_sem,QH,ze5]<;>simp
  .rintro⟨k,ds,c⟩ ⟨hk,hs⟩
   simp only at hk hs ⊢;simp only[go_sem];refine QI (fun Yw=>?_) (fun YG=>?_)
   .have Yv:k<x.length:=by omega
    have Us:=Yv;have hc:=hs.2.2.1;have Oh:(ds++List.replicate (x.length-k) 0).length=x.length:=by simp[hs.1];omega
    have h1:=hx _ (Qh Yv);simp only[BB]at h1;simp only[go_sem,Q8 Yv,Yw];refine⟨by omega,QI (fun VP=>?_) (fun VP=>?_)⟩
    .have Jx:k<y.length:=by omega
     have h2:=hy _ (Qh Jx);simp only[BB]at h2;have e:y.getD k 0=y[k]:=by simp[Jx]
     (iterate 3((try simp only[go_sem,Q8 Jx,VP]);try simp(disch:=omega)only[QG]))
     refine⟨by omega,QI (fun hb=>?_) (fun hb=>?_)⟩
     ·(iterate 3((try simp only[go_sem]);try simp(disch:=omega)only[Q6,QG,show((x[k]:Int)+1000000000-((c:Int)+(y[k]:Int)))=((x[k]+1000000000-(c+y[k]):Nat):Int) by omega]))
      refine⟨⟨by omega,by omega⟩,by rw[za8];omega,?_⟩;refine⟨(k+1,ds++[x[k]+1000000000-(c+y[k])],1),⟨Yv,hs.next hx hy Us (.inl ⟨by omega,by simp only[BB];omega,rfl⟩)⟩,(by show x.length-(k+1)<x.length-k;omega),?_⟩;refine Q7 rfl ?_ ?_ rfl ?_<;>simp only[go_sem,QH,zaF (show k<(ds++List.replicate (x.length-k) 0).length by omega),zg4 hs.1 Yv]<;>simp
     ·(iterate 3((try simp only[go_sem,show((x[k]:Int)-((c:Int)+(y[k]:Int)))=((x[k]-(c+y[k]):Nat):Int) by omega]);try simp(disch:=omega)only[Q6,QG]))
      refine⟨⟨by omega,by omega⟩,by rw[za8];omega,?_⟩;refine⟨(k+1,ds++[x[k]-(c+y[k])],0),⟨Yv,hs.next hx hy Us (.inr ⟨by omega,by omega,rfl⟩)⟩,(by show x.length-(k+1)<x.length-k;omega),?_⟩;refine Q7 rfl ?_ ?_ rfl ?_<;>simp only[go_sem,QH,zaF (show k<(ds++List.replicate (x.length-k) 0).length by omega),zg4 hs.1 Yv]<;>simp
    .have e:y.getD k 0=0:=by simp[show y.length<=k by omega]
     (iterate 3((try simp only[go_sem]);try simp(disch:=omega)only[Q6,QE,QG,Q8]))
     refine QI (fun hb=>?_) (fun hb=>?_)
     ·(iterate 3((try simp only[go_sem]);try simp(disch:=omega)only[Q6,QG,show((x[k]:Int)+1000000000-(c:Int))=((x[k]+1000000000-c:Nat):Int) by omega]))
      refine⟨⟨by omega,by omega⟩,by rw[za8];omega,?_⟩;refine⟨(k+1,ds++[x[k]+1000000000-c],1),⟨Yv,hs.next hx hy Us (.inl ⟨by omega,by simp only[BB];omega,rfl⟩)⟩,(by show x.length-(k+1)<x.length-k;omega),?_⟩;refine Q7 rfl ?_ ?_ rfl ?_<;>simp only[go_sem,QH,zaF (show k<(ds++List.replicate (x.length-k) 0).length by omega),zg4 hs.1 Yv]<;>simp
     ·(iterate 3((try simp only[go_sem,show((x[k]:Int)-(c:Int))=((x[k]-c:Nat):Int) by omega]);try simp(disch:=omega)only[Q6,QG]))
      refine⟨⟨by omega,by omega⟩,by rw[za8];omega,?_⟩;refine⟨(k+1,ds++[x[k]-c],0),⟨Yv,hs.next hx hy Us (.inr ⟨by omega,by omega,rfl⟩)⟩,(by show x.length-(k+1)<x.length-k;omega),?_⟩;refine Q7 rfl ?_ ?_ rfl ?_<;>simp only[go_sem,QH,zaF (show k<(ds++List.replicate (x.length-k) 0).length by omega),zg4 hs.1 Yv]<;>simp
   .obtain rfl:k=x.length:=by omega
    have Vx:=hs.done Ec Yw;have Vn:=hs.1;simp only[go_sem];rw[wbl,wbX,wal];refine zbM 20 1 x.length rfl (zfO ds (by omega)) (by simp only[go_sem]<;>rfl) (by rw[<-Vn];exact Yl Z4) ?_ ?_
    .simp only[go_sem]<;>rfl
    .simp only[go_sem]
     rw[Vx];exact Yr
theorem zpf{xs:List Nat}{i v:Nat}(hi:i<xs.length):val (xs.set i v)+BB^i*xs[i]=val xs+BB^i*v:=by
 have h1:=zeV hi;have h2:=zeV (xs:=xs.set i v) (i:=i) (by simpa using hi);rw[List.getElem_set_self,List.take_set_of_le (Qd _),List.drop_set_of_lt (by omega)]at h2;rw[h1,h2,waf,waf];omega
theorem zqn{xs:List Nat}{i v:Nat}(h:∀ x∈xs,x<BB)(hv:v<BB):∀ x∈xs.set i v,x<BB:=fun x hx=>by
 rcases List.mem_or_eq_of_mem_set hx with h1|rfl
 .exact h x h1
 .exact hv
theorem zn0{xs:List Nat}{i v k:Nat}(hi:i<xs.length):(xs.set i v).getD k 0=if k=i then v else xs.getD k 0:=by
 by_cases h:k=i
 .subst h;simp[hi]
 .rw[Qb h];simp[Ne.symm h]
def zh0(x y:List Nat)(i:Nat)(w:List Nat):Prop:=w.length=x.length+y.length/\(∀ z∈w,z<BB)/\(∀ k,i+y.length<=k->w.getD k 0=0)/\val w=val (x.take i)*val y
def zeM(x y:List Nat)(i n j:Nat)(w:List Nat)(c:Nat):Prop:=w.length=x.length+y.length/\(∀ z∈w,z<BB)/\c<BB/\(∀ k,i+y.length<=k->w.getD k 0=0)/\val w+BB^(i+j)*c=val (x.take i)*val y+BB^i*(n*val (y.take j))
theorem zh0.enter{x y w:List Nat}{i n:Nat}(h:zh0 x y i w):zeM x y i n 0 w 0:=⟨h.1,h.2.1,by decide,h.2.2.1,by rw[h.2.2.2];simp[val]⟩
theorem zeM.next{x y w:List Nat}{i n j c t:Nat}(h:zeM x y i n j w c)(hj:j<y.length)(hw:i+j<w.length)(hn:n<BB)(hy:y[j]<BB)(ht:t=c+(w[i+j]+n*y[j])):zeM x y i n (j+1) (w.set (i+j) (t%BB)) (t/BB):=by
 obtain⟨h1,h2,h3,h4,h5⟩:=h;have hB:BB=1000000000:=rfl;refine⟨by simpa using h1,zqn h2 (wav _ (by decide)),?_,fun k hk=>?_,?_⟩
 .have h6:=h2 _ (Qh hw)
  have h7:n*y[j]<=999999999*999999999:=waB (by omega) (by omega);simp only[BB]at h3 h6 ⊢;omega
 .rw[zn0 hw,Qb (by omega)];exact h4 k hk
 .have e:=zpf (v:=t%BB) hw
  rw[Zd hj,za0,wat,wbs (by omega),<-wbg,waP,wae];have e2:=wck t BB;have e3:=congrArg (BB^(i+j)*·) e2;simp only[ht,waf]at e3;rw[<-ht]at e3;simp only[val,waR,wap,waf];have e4:BB^i*(n*(BB^j*y[j]))=BB^(i+j)*(n*y[j]):=by
   rw[wbe,wae];congr 1;rw[<-wae,<-wae,Qt n]
  rw[e4];omega
theorem zeM.done{x y w:List Nat}{i c:Nat}(hi:i<x.length)(h:zeM x y i x[i] y.length w c):zh0 x y (i+1) (w.set (i+y.length) c):=by
 obtain⟨h1,h2,h3,h4,h5⟩:=h;have hw:i+y.length<w.length:=by omega
 refine⟨by simpa using h1,zqn h2 h3,fun k hk=>?_,?_⟩
 .rw[zn0 hw,Qb (by omega)];exact h4 k (by omega)
 .have e:=zpf (v:=c) hw
  have e0:w[i+y.length]=0:=by have:=h4 (i+y.length) (Qd _);simpa[hw]using this
  rw[e0,waR,wap,h5,Q1]at e;rw[e,Zd hi,za0,wat,wbs (by omega)];simp only[val,waR,wap,war,wae]
theorem zim(a b:List Nat)(ha:a.length<10000000000000)(hb:b.length<10000000000000):Q9 prog 149 [tN a,tN b] (tN (dig (vN a*vN b))):=by
 refine QJ QC call149 func149 rfl ntmps149 results149 (by simp) (by decide) ?_;simp only[go_sem];refine Q3 (zcs a (by omega)) rfl ?_;simp only[go_sem];refine Q3 (zcs b (by omega)) rfl ?_;have UW:=zan a;have VU:=zan b;have hX:=zag a;have hY:=zag b;unfold vN;generalize held a=x at *
 generalize held b=y at *
 have hx:=hX.1;have hy:=hY.1;by_cases WE:x=[]
 .subst WE
  simp only[go_sem];rw[show val []*val y=0 from wdh _,Zi];exact zcz
 have Ox:0<x.length:=wa6.2 WE;have KK:¬((x.length:Int)=0):=by omega
 by_cases Vq:y=[]
 .subst Vq
  simp only[go_sem,KK];rw[show val x*val []=0 from waR _,Zi];exact zcz
 have L1:0<y.length:=wa6.2 Vq;have WG:¬((y.length:Int)=0):=by omega
 (iterate 3((try simp only[go_sem,KK,WG]);try simp(disch:=omega)only[Q6]))
 refine⟨by omega,?_⟩;have G9:(x.length:Int)+(y.length:Int)=((x.length+y.length:Nat):Int):=by omega
 have Eo:IntKind.wrap .i64 ((x.length+y.length:Nat):Int)=((x.length+y.length:Nat):Int):=Q6 (by omega) (by omega);refine QK (fun p:Nat×List Nat=>stL 80 [(0,aN x),(1,aN y),(5,.one (.vec 28 1 0 (x.length+y.length))),(29,aN x),(30,litI .i64 x.length),(31,litI .i64 p.1)] [(28,cN p.2)])
  (fun p=>p.1<=x.length/\zh0 x y p.1 p.2) (fun p=>x.length-p.1) (0,List.replicate (x.length+y.length) 0) ?_ ⟨Qk _,by simp,(fun z hz=>by rw[wdU hz];decide),(fun k _=>by simp[wek];split<;>rfl),by rw[zj1];simp[val]⟩ ?_
 .refine Q7 rfl ?_ ?_ rfl ?_<;>simp only[go_sem,G9,QH,ze5]<;>simp
 .rintro⟨i,w⟩ ⟨hi,hs⟩
  simp only at hi hs ⊢;simp only[go_sem];refine QI (fun Yw=>?_) (fun YG=>?_)
  .have Yv:i<x.length:=by omega
   have VC:=hx _ (Qh Yv);have RX:=VC;simp only[BB]at RX;simp only[go_sem,Q8 Yv,Yw];refine⟨by omega,?_⟩;refine QK (fun p:Nat×List Nat×Nat=>stL 80 [(0,aN x),(1,aN y),(5,.one (.vec 28 1 0 (x.length+y.length))),(6,litI .i64 i),(7,litI .u32 x[i]),(8,litI .u64 p.2.2),(29,aN x),(30,litI .i64 x.length),(31,litI .i64 i),(36,aN y),(37,litI .i64 y.length),(38,litI .i64 p.1)] [(28,cN p.2.1)])
    (fun p=>p.1<=y.length/\zeM x y i x[i] p.1 p.2.1 p.2.2) (fun p=>y.length-p.1) (0,w,0) ?_ ⟨Qk _,hs.enter⟩ ?_
   .refine Q7 rfl ?_ ?_ rfl ?_<;>simp only[go_sem,QH]<;>simp
   .rintro⟨j,w,c⟩ ⟨hj,hs⟩
    simp only at hj hs ⊢;simp only[go_sem];refine QI (fun Ky=>?_) (fun Ky=>?_)
    .have X2:j<y.length:=by omega
     have GA:=hy _ (Qh X2);have RY:=GA;simp only[BB]at RY;have hw:i+j<w.length:=by have:=hs.1;omega
     have Fr:=hs.2.1 _ (Qh hw);have hc:=hs.2.2.1;simp only[BB]at Fr hc;have WH:x[i]*y[j]<=999999999*999999999:=waB (by omega) (by omega);have Yx:=hs.next X2 hw VC GA rfl;have eij:(i:Int)+(j:Int)=((i+j:Nat):Int):=by omega
     have et:((c:Int)+((w[i+j]:Int)+(x[i]:Int)*(y[j]:Int)))=((c+(w[i+j]+x[i]*y[j]):Nat):Int):=by omega
     have KL:(c+(w[i+j]+x[i]*y[j]))%1000000000<1000000000:=wav _ (by decide);generalize hT:c+(w[i+j]+x[i]*y[j])=t at *
     (iterate 3((try simp only[go_sem,Q8 X2,Ky,eij,zaY hw]);try simp(disch:=omega)only[Q6,QE,QG,et,Zu,QS]))
     have Eg:=hs.1;refine⟨by omega,⟨by omega,by omega⟩,⟨by omega,by omega⟩,by rw[za8];omega,?_⟩;refine⟨(j+1,w.set (i+j) (t%BB),t/BB),⟨X2,Yx⟩,(by show y.length-(j+1)<y.length-j;omega),?_⟩;refine Q7 rfl ?_ ?_ rfl ?_<;>simp only[go_sem,QH,zaF hw,BB]<;>simp
    .obtain rfl:j=y.length:=by omega
     have Eg:=hs.1;have hc:=hs.2.2.1;simp only[BB]at hc;have hw:i+y.length<w.length:=by omega
     have Yx:=hs.done Yv;have eij:(i:Int)+(y.length:Int)=((i+y.length:Nat):Int):=by omega
     (iterate 3((try simp only[go_sem,eij]);try simp(disch:=omega)only[Q6,QG]))
     refine⟨⟨by omega,by omega⟩,by rw[za8];omega,?_⟩;refine⟨(i+1,w.set (i+y.length) c),⟨Yv,Yx⟩,(by show x.length-(i+1)<x.length-i;omega),?_⟩;refine Q7 rfl ?_ ?_ rfl ?_<;>simp only[go_sem,QH,zaF hw]<;>simp
  .obtain rfl:i=x.length:=by omega
   obtain⟨h1,h2,h3,h4⟩:=hs;rw[Q1]at h4;simp only[go_sem];refine zbM 28 1 (x.length+y.length) rfl (zfO w (by omega)) (by simp only[go_sem]<;>rfl) (by rw[<-h1];exact Yl Z4) ?_ ?_
   .simp only[go_sem]<;>rfl
   .simp only[go_sem]
    rw[<-h4,zcH h2];exact Yr
def ByI(x:List Nat)(n k:Nat)(qs:List Nat)(l:Nat):Prop:=k+qs.length=x.length/\(∀ z∈qs,z<BB)/\l<n/\val qs*n+l=val (x.drop k)
theorem ByI.next{x qs:List Nat}{n i l:Nat}(h:ByI x n (i+1) qs l)(hn:n<BB)(hi:i<x.length)(hx:x[i]<BB):ByI x n i ((l*BB+x[i])/n::qs) ((l*BB+x[i])%n):=by
 obtain⟨h1,h2,h3,h4⟩:=h;have Xl:0<n:=by omega
 refine⟨by simp;omega,fun z hz=>?_,wav _ Xl,?_⟩
 .rcases wab.1 hz with rfl|hz
  .rw[wc9 Xl]
   have:(l+1)*BB<=n*BB:=wak _ h3;rw[war,Qt n]at this;omega
  .exact h2 z hz
 .rw[waw hi]
  simp only[val];rw[<-h4,war,Nat.add_right_comm,Qt _ n,wcj,waf,Qt l,<-wae];omega
theorem ByI.done{x qs:List Nat}{n l:Nat}(h:ByI x n 0 qs l):trimZ qs=dig (val x/n)/\l=val x%n:=by
 obtain⟨h1,h2,h3,h4⟩:=h;rw[wbM]at h4;rw[zcH h2];have Xl:0<n:=by omega
 refine⟨?_,?_⟩
 .rw[<-h4,Qt,wda Xl,wbm h3,wap]
 .rw[<-h4,Qt,wdb,wbr h3]
theorem zg3{k y:Nat}{qs:List Nat}:(List.replicate (k+1) 0++qs).set k y=List.replicate k 0++y::qs:=by
 rw[List.replicate_succ',waM,wdO,Qb (by simp)];simp
theorem znP(x:List Nat)(n:Nat)(hl:x.length<30000000000000)(hx:∀ z∈x,z<BB)(Xl:0<n)(hn:n<BB):Q9 prog 176 [tN x,tI .u32 n] (.tup [tN (dig (val x/n)),tI .u32 (val x%n:Nat)]):=by
 refine QJ QC call176 func176 rfl ntmps176 results176 (by simp) (by decide) ?_;have Gp:=hn;simp only[BB]at Gp
 (iterate 3((try simp only[go_sem]);try simp(disch:=omega)only[Q6]))
 refine⟨by omega,?_⟩;refine QK (fun p:Nat×List Nat×Nat=>stL 43 [(0,aN x),(1,litI .u32 n),(6,.one (.vec 11 1 0 x.length)),(7,litI .u64 p.2.2),(8,litI .i64 ((p.1:Int)-1))] [(11,cN (List.replicate p.1 0++p.2.1))])
  (fun p=>ByI x n p.1 p.2.1 p.2.2) (fun p=>p.1) (x.length,[],0) ?_ ⟨by simp,by simp,Xl,by simp[val]⟩ ?_
 .refine Q7 rfl ?_ ?_ rfl ?_<;>simp only[go_sem,QH,ze5,wal]<;>simp
 .rintro⟨k,qs,l⟩ hs
  simp only at hs ⊢;have On:=hs.1;simp only[go_sem];refine QI (fun Yw=>?_) (fun YG=>?_)
  .obtain⟨i,rfl⟩:∃ i,k=i+1:=⟨k-1,by omega⟩
   have e:((i+1:Nat):Int)-1=i:=by omega
   have e':((i:Int)+1-1)=i:=by omega
   have hi:i<x.length:=by omega
   have VC:=hx _ (Qh hi);have Yx:=hs.next hn hi VC;have Lv:=hs.2.2.1;simp only[BB]at VC Yx;have hw:i<(List.replicate (i+1) 0++qs).length:=by simp;omega
   have Eg:(List.replicate (i+1) 0++qs).length=x.length:=by simp;omega
   have et:(l:Int)*1000000000+(x[i]:Int)=((l*1000000000+x[i]:Nat):Int):=by omega
   have hq:=Yx.2.1 _ (wam ..);have hr:=Yx.2.2.1;simp only[BB]at hq;generalize hT:l*1000000000+x[i]=t at *
   have eq1:Int.tdiv (t:Int) (n:Int)=((t/n:Nat):Int):=zrm;have er1:Int.tmod (t:Int) (n:Int)=((t%n:Nat):Int):=zrl;generalize t/n=q at *
   generalize t%n=r at *
   (iterate 3((try simp only[go_sem,Q8 hi,e']);try simp(disch:=omega)only[Q6,QE,QG,et,eq1,er1]))
   refine⟨⟨by omega,by omega⟩,fun _=>by omega,⟨by omega,by omega⟩,by rw[za8];omega,fun _=>by omega,?_⟩;refine⟨(i,q::qs,r),Yx,waN i,?_⟩;refine Q7 rfl ?_ ?_ rfl ?_<;>simp only[go_sem,QH,zaF hw,zg3]<;>simp
  .obtain rfl:k=0:=by omega
   have Vx:=hs.done;have Lv:=hs.2.2.1;have Gq:qs.length=x.length:=by omega
   rw[wbX,wbw];simp only[go_sem];refine zbM 11 1 x.length rfl (zfO qs (by omega)) (by simp only[go_sem]<;>rfl) (by rw[<-Gq];exact Yl Z4) ?_ ?_
   .simp only[go_sem]<;>rfl
   ·(iterate 3((try simp only[go_sem]);try simp(disch:=omega)only[QG]))
    rw[Vx.1,Vx.2];exact zgq (.tup [tN (dig (val x/n)),tI .u32 (val x%n:Nat)])
theorem zo5(xs:List Nat)(hl:xs.length<10000000000000):Q9 prog 158 [tN xs] (tN xs):=by
 refine Q9.nil1 (fun h=>?_) ?_
 .obtain rfl:xs=[]:=by simpa using h
  refine QJ QC call158 func158 rfl ntmps158 results158 (by simp) (by decide) ?_;simp only[go_sem];exact zcz
 .refine QJ QC call158 func158 rfl ntmps158 results158 (by simp) (by decide) ?_
  simp only[go_sem];refine zkc 5 1 rfl (Qd _) (by simp only[go_sem]<;>decide) (by simp only[go_sem]) (by decide) ?_;simp only[go_sem];refine zay (Qd _) (sz:=1) (bytes:=4) (by simp only[go_sem,QV]<;>decide) Z4 [] xs (by simp only[go_sem]<;>rfl) rfl (by simp only[go_sem]<;>rfl) (by simp only[go_sem]<;>rfl) rfl (by simp;omega) (by decide) ?_;simp only[go_sem];exact zf7 Z4 (by simp only[go_sem]) rfl
theorem zsJ:∀ {xs:List Nat},∃ l,xs=trimZ xs++l:=by
 intro xs;generalize h:xs.length=n
 induction n generalizing xs with
 |zero=>obtain rfl:=wbd.1 h;exact⟨[],rfl⟩
 |succ n ih =>
  rcases List.eq_nil_or_concat xs with rfl|⟨l,x,rfl⟩
  .simp at h
  .simp only[List.concat_eq_append]at *
   by_cases hx:x=0
   .subst hx
    rw[zii];obtain⟨l2,h2⟩:=ih (xs:=l) (by simpa using h);refine⟨l2++[0],?_⟩;rw[<-waM,<-h2]
   .rw[zgW (by simp[hx])];exact⟨[],by simp⟩
theorem zsK(xs:List Nat)(hl:xs.length<30000000000000):Zf prog 157 [.one (.vec PIN 1 0 xs.length)] (Yq PIN (cN xs)) (.one (.vec PIN 1 0 (trimZ xs).length)) (Yq PIN (cN xs)):=by
 refine zh9 QC call157 func157 rfl ntmps157 results157 (by simp) (by decide) ?_ ?_ ?_
 .exact zkD
 .exact za3
 simp only[go_sem];refine QK (fun k:Nat=>stL 21 [(0,.one (.vec PIN 1 0 k))] [(PIN,cN xs)]) (fun k=>k<=xs.length/\trimZ (xs.take k)=trimZ xs) (fun k=>k) xs.length ?_ ⟨Qd _,by rw[Q1]⟩ ?_
 .refine Q7 rfl ?_ ?_ rfl ?_<;>simp only[go_sem,QH]<;>simp
 .rintro k ⟨hi,YK⟩
  simp only[go_sem];rcases wcb k with rfl|hk
  .simp only[go_sem]
   rw[<-YK];rfl
  .obtain⟨i,rfl⟩:∃ i,k=i+1:=⟨k-1,by omega⟩
   have Y6:i<xs.length:=by omega
   have YQ:(0:Int)<((i+1:Nat):Int):=by omega
   have X7:(0:Int)<(i:Int)+1:=by omega
   have e:((i+1:Nat):Int)-1=i:=by omega
   have e2:(i:Int)+1-1=i:=by omega
   rw[Zd Y6]at YK
   (iterate 3((try simp only[go_sem,X7,e2,zaY Y6]);try simp(disch:=omega)only[Q6]))
   refine⟨by omega,QI (fun h=>?_) (fun h=>?_)⟩
   .have hx:xs[i]=0:=by omega
    rw[hx,zii]at YK
    (iterate 3((try simp only[go_sem,e2]);try simp(disch:=omega)only[Q6,show(0:Int)<=(i:Int) by omega]))
    refine⟨⟨Qk _,by omega,.inl trivial⟩,i,⟨by omega,YK⟩,waN i,?_⟩;refine Q7 rfl ?_ ?_ rfl ?_<;>simp only[go_sem,QH]<;>simp
   .have hx:xs[i]≠0:=by omega
    simp only[go_sem];rw[zgW (by rw[List.getLast?_concat];simp[hx])]at YK;rw[<-YK,Qj,wat,wbs (by omega)];rfl
theorem zto(a b:List Nat)(ha:a.length<10000000000000)(hb:b.length<10000000000000)(O8:vN a≠0)(O9:vN b≠0):zhO prog 149 [tN a,tN b] 1 (dig (vN a*vN b)).length (cN (dig (vN a*vN b))):=by
 refine zj3 (b:=28) QC call149 func149 rfl ntmps149 results149 (by simp) (by decide) ?_ ?_
 .exact za3
 simp only[go_sem];refine Q3 (zcs a (by omega)) rfl ?_;simp only[go_sem];refine Q3 (zcs b (by omega)) rfl ?_;have UW:=zan a;have VU:=zan b;have hX:=zag a;have hY:=zag b;unfold vN at *
 generalize held a=x at *
 generalize held b=y at *
 have hx:=hX.1;have hy:=hY.1;have WE:x≠[]:=fun h=>O8 (by rw[h];rfl)
 have Ox:0<x.length:=wa6.2 WE;have KK:¬((x.length:Int)=0):=by omega
 have Vq:y≠[]:=fun h=>O9 (by rw[h];rfl)
 have L1:0<y.length:=wa6.2 Vq;have WG:¬((y.length:Int)=0):=by omega
 (iterate 3((try simp only[go_sem,KK,WG]);try simp(disch:=omega)only[Q6]))
 refine⟨by omega,?_⟩;have G9:(x.length:Int)+(y.length:Int)=((x.length+y.length:Nat):Int):=by omega
 have Eo:IntKind.wrap .i64 ((x.length+y.length:Nat):Int)=((x.length+y.length:Nat):Int):=Q6 (by omega) (by omega);refine QK (fun p:Nat×List Nat=>stL 80 [(0,aN x),(1,aN y),(5,.one (.vec 28 1 0 (x.length+y.length))),(29,aN x),(30,litI .i64 x.length),(31,litI .i64 p.1)] [(28,cN p.2)])
  (fun p=>p.1<=x.length/\zh0 x y p.1 p.2) (fun p=>x.length-p.1) (0,List.replicate (x.length+y.length) 0) ?_ ⟨Qk _,by simp,(fun z hz=>by rw[wdU hz];decide),(fun k _=>by simp[wek];split<;>rfl),by rw[zj1];simp[val]⟩ ?_
 .refine Q7 rfl ?_ ?_ rfl ?_<;>simp only[go_sem,G9,QH,ze5]<;>simp
 .rintro⟨i,w⟩ ⟨hi,hs⟩
  simp only at hi hs ⊢;simp only[go_sem];refine QI (fun Yw=>?_) (fun YG=>?_)
  .have Yv:i<x.length:=by omega
   have VC:=hx _ (Qh Yv);have RX:=VC;simp only[BB]at RX;simp only[go_sem,Q8 Yv,Yw];refine⟨by omega,?_⟩;refine QK (fun p:Nat×List Nat×Nat=>stL 80 [(0,aN x),(1,aN y),(5,.one (.vec 28 1 0 (x.length+y.length))),(6,litI .i64 i),(7,litI .u32 x[i]),(8,litI .u64 p.2.2),(29,aN x),(30,litI .i64 x.length),(31,litI .i64 i),(36,aN y),(37,litI .i64 y.length),(38,litI .i64 p.1)] [(28,cN p.2.1)])
    (fun p=>p.1<=y.length/\zeM x y i x[i] p.1 p.2.1 p.2.2) (fun p=>y.length-p.1) (0,w,0) ?_ ⟨Qk _,hs.enter⟩ ?_
   .refine Q7 rfl ?_ ?_ rfl ?_<;>simp only[go_sem,QH]<;>simp
   .rintro⟨j,w,c⟩ ⟨hj,hs⟩
    simp only at hj hs ⊢;simp only[go_sem];refine QI (fun Ky=>?_) (fun Ky=>?_)
    .have X2:j<y.length:=by omega
     have GA:=hy _ (Qh X2);have RY:=GA;simp only[BB]at RY;have hw:i+j<w.length:=by have:=hs.1;omega
     have Fr:=hs.2.1 _ (Qh hw);have hc:=hs.2.2.1;simp only[BB]at Fr hc;have WH:x[i]*y[j]<=999999999*999999999:=waB (by omega) (by omega);have Yx:=hs.next X2 hw VC GA rfl;have eij:(i:Int)+(j:Int)=((i+j:Nat):Int):=by omega
     have et:((c:Int)+((w[i+j]:Int)+(x[i]:Int)*(y[j]:Int)))=((c+(w[i+j]+x[i]*y[j]):Nat):Int):=by omega
     have KL:(c+(w[i+j]+x[i]*y[j]))%1000000000<1000000000:=wav _ (by decide);generalize hT:c+(w[i+j]+x[i]*y[j])=t at *
     (iterate 3((try simp only[go_sem,Q8 X2,Ky,eij,zaY hw]);try simp(disch:=omega)only[Q6,QE,QG,et,Zu,QS]))
     have Eg:=hs.1;refine⟨by omega,⟨by omega,by omega⟩,⟨by omega,by omega⟩,by rw[za8];omega,?_⟩;refine⟨(j+1,w.set (i+j) (t%BB),t/BB),⟨X2,Yx⟩,(by show y.length-(j+1)<y.length-j;omega),?_⟩;refine Q7 rfl ?_ ?_ rfl ?_<;>simp only[go_sem,QH,zaF hw,BB]<;>simp
    .obtain rfl:j=y.length:=by omega
     have Eg:=hs.1;have hc:=hs.2.2.1;simp only[BB]at hc;have hw:i+y.length<w.length:=by omega
     have Yx:=hs.done Yv;have eij:(i:Int)+(y.length:Int)=((i+y.length:Nat):Int):=by omega
     (iterate 3((try simp only[go_sem,eij]);try simp(disch:=omega)only[Q6,QG]))
     refine⟨⟨by omega,by omega⟩,by rw[za8];omega,?_⟩;refine⟨(i+1,w.set (i+y.length) c),⟨Yv,Yx⟩,(by show x.length-(i+1)<x.length-i;omega),?_⟩;refine Q7 rfl ?_ ?_ rfl ?_<;>simp only[go_sem,QH,zaF hw]<;>simp
  .obtain rfl:i=x.length:=by omega
   obtain⟨h1,h2,h3,h4⟩:=hs;rw[Q1]at h4;simp only[go_sem];rw[<-h1];refine zeW 28 (by decide) (zsK w (by omega)) (by simp only[go_sem]<;>rfl) (by simp only[go_sem]<;>rfl) zkD za3 za3 ?_;obtain⟨l,hl⟩:=zsJ (xs:=w);rw[<-h4,<-zcH h2];simp only[go_sem];exact⟨cN l,(congrArg cN hl).trans zgM⟩
theorem zpy{A B:List Nat}{x y:Nat}:(A++x::B).set A.length y=A++y::B:=by simp
def zfz(u v:List Nat)(q:Nat)(ds:List Nat)(c b:Nat):Prop :=
 ds.length<=u.length/\(∀ z∈ds,z<BB)/\c<BB/\b<=1/\(v.length<ds.length->c=0)/\val ds+q*val (v.take ds.length)=val (u.take ds.length)+BB^ds.length*(b+c)
theorem zfz.next{u v ds:List Nat}{q c b e t b':Nat}(h:zfz u v q ds c b)(hu:∀ z∈u,z<BB)(hv:∀ z∈v,z<BB)(hq:q<BB)(hk:ds.length<u.length)(ht:t=c+q*v.getD ds.length 0)(hb':b'<=1)(he:e<BB)(hd:e+t%BB+b=u[ds.length]+BB*b') :
  zfz u v q (ds++[e]) (t/BB) b':=by
 obtain⟨h1,h2,h3,h4,h5,h6⟩:=h;have FY:v.getD ds.length 0<BB:=by
  by_cases h:ds.length<v.length
  .simp[h];exact hv _ (Qh h)
  .simp[show v.length<=ds.length by omega,BB]
 have Y0:(ds++[e]).length=ds.length+1:=by simp
 have e2:=wck t BB;rw[zfz,Y0];refine⟨hk,fun z hz=>?_,?_,hb',fun Ww=>?_,?_⟩
 .rcases wan.1 hz with hz|hz
  .exact h2 z hz
  .simp at hz;subst hz;exact he
 .have h7:q*v.getD ds.length 0<=999999999*999999999:=waB (by simp only[BB]at hq;omega) (by simp only[BB]at FY;omega)
  simp only[BB]at h3 ⊢;omega
 .have:v.getD ds.length 0=0:=by simp[show v.length<=ds.length by omega]
  rw[this]at ht;exact wbm (by omega)
 .rw[za0,zek,zek,waf,waP,wae]
  have eu:u.getD ds.length 0=u[ds.length]:=by simp[hk]
  rw[eu];have e3:=congrArg (BB^ds.length*·) hd;have e4:=congrArg (BB^ds.length*·) (e2.trans ht);simp only[waf]at e3 e4 h6;simp only[val,waR,wap,waf];have e5:q*(BB^ds.length*v.getD ds.length 0)=BB^ds.length*(q*v.getD ds.length 0):=by rw[<-wae,<-wae,Qt q]
  rw[e5];omega
def zmf(u v:List Nat)(q:Nat)(u':List Nat)(b:Nat):Prop:=u'.length=u.length/\(∀ z∈u',z<BB)/\b<=1/\val u'+q*val v=val u+BB^u.length*b
theorem zfz.done{u v ds:List Nat}{q c b:Nat}(h:zfz u v q ds c b)(hl:ds.length=u.length)(hv:v.length<u.length):zmf u v q ds b:=by
 obtain⟨h1,h2,h3,h4,h5,h6⟩:=h;have hc:=h5 (by omega);subst hc;rw[waL (by omega),waL (by omega),wap]at h6;exact⟨hl,h2,h4,by rw[<-hl];exact h6⟩
def pad:Nat->Nat->List Nat
 |0,_=>[]
 |n+1,m=>m%BB::pad n (m/BB)
theorem zdL:∀ {n m:Nat},(pad n m).length=n
 |0,_=>rfl
 |n+1,m=>by simp[pad,zdL]
theorem zjt:∀ {n m:Nat},∀ z∈pad n m,z<BB
 |0,_,z,hz=>by simp[pad]at hz
 |n+1,m,z,hz=>by
  simp only[pad,wab]at hz;rcases hz with rfl|hz
  .exact wav _ (by decide)
  .exact zjt z hz
theorem zpz:∀ {xs:List Nat} {n:Nat},xs.length=n->(∀ z∈xs,z<BB)->pad n (val xs)=xs
 |[],_,h,_=>by subst h;rfl
 |x::l,_,h,hx=>by
  subst h;have h1:=hx x (wam ..);simp only[Qe,pad,val];rw[wen,wbr h1,Nat.add_mul_div_left _ _ (by decide),wbm h1,waY,zpz rfl fun z hz=>hx z (waj _ hz)]
theorem zlv:∀ {n m:Nat},m<BB^n->val (pad n m)=m
 |0,m,h=>by simp at h;subst h;rfl
 |n+1,m,h=>by
  simp only[pad,val];rw[zlv (by rw[wc9 (by decide),<-waP];exact h)];exact wck m BB
theorem zqC{xs:List Nat}{n m:Nat}(h:xs.length=n)(hx:∀ z∈xs,z<BB)(hm:val xs=m):xs=pad n m:=by rw[<-hm,zpz h hx]
def zd0(u v:List Nat)(q:Nat):Nat:=if q*val v<=val u then 0 else 1
def zbY(u v:List Nat)(q:Nat):List Nat:=pad u.length (val u+BB^u.length*zd0 u v q-q*val v)
theorem zmf.tells{u v u':List Nat}{q b:Nat}(h:zmf u v q u' b)(hu:∀ z∈u,z<BB):u'=zbY u v q/\b=zd0 u v q:=by
 obtain⟨h1,h2,h3,h4⟩:=h;have h5:=zab h2;have h6:=zab hu;rw[h1]at h5;have hb:b=zd0 u v q:=by
  unfold zd0;have:b=0\/b=1:=by omega
  rcases this with rfl|rfl
  .rw[Qc (by omega)]
  .rw[Qb (by omega)]
 refine⟨zqC h1 h2 ?_,hb⟩;rw[<-hb];omega
theorem zm1(A u B v:List Nat)(q:Nat)(hl:(A++u++B).length<10000000000000)(hu:∀ z∈u,z<BB)(hv:∀ z∈v,z<BB)(hq:q<BB)(Ww:v.length<u.length) :
  Zf prog 179 [.one (.vec PIN 1 A.length u.length),aN v,litI .u64 q] (Yq PIN (cN (A++u++B))) (QO (decide (0<zd0 u v q))) (Yq PIN (cN (A++zbY u v q++B))):=by
 refine zh9 QC call179 func179 rfl ntmps179 results179 (by simp) (by decide) ?_ ?_ ?_
 .exact zeo rfl
 .exact za3
 have OW:=hq;simp only[BB]at OW;simp only[Qj]at hl;simp only[go_sem];refine QK (fun p:List Nat×Nat×Nat=>stL 54 [(0,.one (.vec PIN 1 A.length u.length)),(1,aN v),(2,litI .u64 q),(7,litI .u64 p.2.1),(8,litI .i64 p.2.2),(12,litI .i64 u.length),(13,litI .i64 p.1.length)] [(PIN,cN (A++p.1++(u.drop p.1.length++B)))])
  (fun p=>zfz u v q p.1 p.2.1 p.2.2) (fun p=>u.length-p.1.length) ([],0,0) ?_ ⟨Qk _,by simp,by decide,Qk _,fun _=>rfl,by simp[val]⟩ ?_
 .refine Q7 rfl ?_ ?_ rfl ?_<;>simp only[go_sem,QH]<;>simp
 .rintro⟨ds,c,b⟩ hs
  simp only at hs ⊢;simp only[go_sem];refine QI (fun Yw=>?_) (fun YG=>?_)
  .have Yv:ds.length<u.length:=by omega
   obtain⟨x,us,hd⟩:∃ x us,u.drop ds.length=x::us:=⟨_,_,waw Yv⟩
   have hx:u[ds.length]=x:=by rw[waw Yv]at hd;exact(wdz hd).1
   have Nh:us=u.drop (ds.length+1):=by rw[waw Yv]at hd;exact(wdz hd).2.symm
   have Us:=hu _ (Qh Yv);rw[hx]at Us;simp only[BB]at Us;have hc:=hs.2.2.1;simp only[BB]at hc;have hb:=hs.2.2.2.1;rw[hd,wb5];have V3:∀ e,(A++(ds++x::(us++B))).set (A.length+ds.length) e=A++(ds++[e])++(us++B):=fun e=>by
    rw[<-waM,<-Qj,zpy];simp
   have UG:∀ h:A.length+ds.length<(A++(ds++x::(us++B))).length,(A++(ds++x::(us++B)))[A.length+ds.length]=x:=fun h=>by
    simp only[<-waM A];simp only[<-Qj];simp
   have hw:A.length+ds.length<(A++(ds++x::(us++B))).length:=by simp only[Qj,Qe];omega
   replace UG:=UG hw
   generalize A++(ds++x::(us++B))=W at *
   simp only[go_sem];refine QI (fun Ni=>?_) (fun Ni=>?_)
   .have Uj:ds.length<v.length:=by omega
    have hy:=hv _ (Qh Uj);simp only[BB]at hy;have WH:q*v[ds.length]<=999999999*999999999:=waB (by omega) (by omega);have ht:c+q*v[ds.length]=c+q*v.getD ds.length 0:=by simp[Uj]
    have et:(c:Int)+(q:Int)*(v[ds.length]:Int)=((c+q*v[ds.length]:Nat):Int):=by omega
    generalize c+q*v[ds.length]=t at *
    have Kc:t%1000000000<1000000000:=wav _ (by decide)
    (iterate 3((try simp only[go_sem,Q8 Uj,Ni,zaY hw,UG]);try simp(disch:=omega)only[Q6,QE,et,Zu,QS]))
    refine⟨by omega,⟨by omega,by omega⟩,QI (fun NY=>?_) (fun NY=>?_)⟩
    .have en:x+1000000000-t%1000000000-b<1000000000:=by omega
     have ee:((x:Int)-((t%1000000000:Nat):Int)-(b:Int))+1000000000=((x+1000000000-t%1000000000-b:Nat):Int):=by omega
     have Yx:=hs.next (e:=x+1000000000-t%1000000000-b) (t:=t) (b':=1) hu hv hq Yv ht (by decide) (by simp only[BB];exact en) (by simp only[BB];omega);generalize x+1000000000-t%1000000000-b=e at *
     (iterate 3((try simp only[go_sem,ee]);try simp(disch:=omega)only[Q6,QG]))
     refine⟨by omega,by rw[za8];omega,?_⟩;refine⟨(ds++[e],t/1000000000,1),Yx,(by show u.length-(ds++[e]).length<u.length-ds.length;rw[Qj];simp only[Qe,Qi];omega),?_⟩;refine Q7 rfl ?_ ?_ rfl ?_<;>simp only[go_sem,QH,zaF hw,V3,Nh,Qj,Qe,Qi]<;>simp
    .have en:x-t%1000000000-b<1000000000:=by omega
     have ee:((x:Int)-((t%1000000000:Nat):Int)-(b:Int))=((x-t%1000000000-b:Nat):Int):=by omega
     have Yx:=hs.next (e:=x-t%1000000000-b) (t:=t) (b':=0) hu hv hq Yv ht (by decide) (by simp only[BB];exact en) (by simp only[BB];omega);generalize x-t%1000000000-b=e at *
     (iterate 3((try simp only[go_sem,ee]);try simp(disch:=omega)only[Q6,QG]))
     refine⟨by omega,by rw[za8];omega,?_⟩;refine⟨(ds++[e],t/1000000000,0),Yx,(by show u.length-(ds++[e]).length<u.length-ds.length;rw[Qj];simp only[Qe,Qi];omega),?_⟩;refine Q7 rfl ?_ ?_ rfl ?_<;>simp only[go_sem,QH,zaF hw,V3,Nh,Qj,Qe,Qi]<;>simp
   .obtain⟨t,et⟩:∃ t,t=c:=⟨c,rfl⟩
    have ht:t=c+q*v.getD ds.length 0:=by rw[et];simp[show v.length<=ds.length by omega]
    have Kc:t%1000000000<1000000000:=wav _ (by decide)
    (iterate 3((try simp only[go_sem,<-et,Zu,QS,zaY hw,UG]);try simp(disch:=omega)only[Q6,QE]))
    refine⟨⟨by omega,by omega⟩,QI (fun NY=>?_) (fun NY=>?_)⟩
    .have en:x+1000000000-t%1000000000-b<1000000000:=by omega
     have ee:((x:Int)-((t%1000000000:Nat):Int)-(b:Int))+1000000000=((x+1000000000-t%1000000000-b:Nat):Int):=by omega
     have Yx:=hs.next (e:=x+1000000000-t%1000000000-b) (t:=t) (b':=1) hu hv hq Yv ht (by decide) (by simp only[BB];exact en) (by simp only[BB];omega);generalize x+1000000000-t%1000000000-b=e at *
     (iterate 3((try simp only[go_sem,ee]);try simp(disch:=omega)only[Q6,QG]))
     refine⟨by omega,by rw[za8];omega,?_⟩;refine⟨(ds++[e],t/1000000000,1),Yx,(by show u.length-(ds++[e]).length<u.length-ds.length;rw[Qj];simp only[Qe,Qi];omega),?_⟩;refine Q7 rfl ?_ ?_ rfl ?_<;>simp only[go_sem,QH,zaF hw,V3,Nh,Qj,Qe,Qi]<;>simp
    .have en:x-t%1000000000-b<1000000000:=by omega
     have ee:((x:Int)-((t%1000000000:Nat):Int)-(b:Int))=((x-t%1000000000-b:Nat):Int):=by omega
     have Yx:=hs.next (e:=x-t%1000000000-b) (t:=t) (b':=0) hu hv hq Yv ht (by decide) (by simp only[BB];exact en) (by simp only[BB];omega);generalize x-t%1000000000-b=e at *
     (iterate 3((try simp only[go_sem,ee]);try simp(disch:=omega)only[Q6,QG]))
     refine⟨by omega,by rw[za8];omega,?_⟩;refine⟨(ds++[e],t/1000000000,0),Yx,(by show u.length-(ds++[e]).length<u.length-ds.length;rw[Qj];simp only[Qe,Qi];omega),?_⟩;refine Q7 rfl ?_ ?_ rfl ?_<;>simp only[go_sem,QH,zaF hw,V3,Nh,Qj,Qe,Qi]<;>simp
  .have Vn:ds.length=u.length:=by have:=hs.1;omega
   have hR:=(hs.done Vn Ww).tells hu;rw[Vn,wa5];simp only[go_sem];rw[<-hR.1,<-hR.2];exact⟨by congr 1;rw[wax];omega,rfl⟩
def zfC(u v ds:List Nat)(c:Nat):Prop:=ds.length<=u.length/\(∀ z∈ds,z<BB)/\c<=1/\val ds+BB^ds.length*c=val (u.take ds.length)+val (v.take ds.length)
theorem zfC.next{u v ds:List Nat}{c t:Nat}(h:zfC u v ds c)(hu:∀ z∈u,z<BB)(hv:∀ z∈v,z<BB)(hk:ds.length<u.length)(ht:t=u[ds.length]+c+v.getD ds.length 0):zfC u v (ds++[t%BB]) (t/BB):=by
 obtain⟨h1,h2,h3,h4⟩:=h;have FY:v.getD ds.length 0<BB:=by
  by_cases h:ds.length<v.length
  .simp[h];exact hv _ (Qh h)
  .simp[show v.length<=ds.length by omega,BB]
 have Si:=hu _ (Qh hk);have Y0:(ds++[t%BB]).length=ds.length+1:=by simp
 rw[zfC,Y0];refine⟨hk,fun z hz=>?_,?_,?_⟩
 .rcases wan.1 hz with hz|hz
  .exact h2 z hz
  .simp at hz;subst hz;exact wav _ (by decide)
 .simp only[BB]at FY Si ⊢;omega
 .have eu:u.getD ds.length 0=u[ds.length]:=by simp[hk]
  rw[za0,zek,zek,waP,wae,eu];have e4:=congrArg (BB^ds.length*·) ((wck t BB).trans ht);simp only[waf]at e4;simp only[val,waR,wap];omega
def zjO(u v:List Nat):List Nat:=pad u.length ((val u+val v)%BB^u.length)
theorem zfC.done{u v ds:List Nat}{c:Nat}(h:zfC u v ds c)(hl:ds.length=u.length)(hv:v.length<=u.length):ds=zjO u v:=by
 obtain⟨h1,h2,h3,h4⟩:=h;rw[hl,Q1,waL hv]at h4;have h5:=zab h2;rw[hl]at h5;refine zqC hl h2 ?_;rw[<-h4,wen,wbr h5]
theorem zne(A u B v:List Nat)(hl:(A++u++B).length<10000000000000)(hu:∀ z∈u,z<BB)(hv:∀ z∈v,z<BB)(Ww:v.length<=u.length) :
  Zf prog 180 [.one (.vec PIN 1 A.length u.length),aN v] (Yq PIN (cN (A++u++B))) undefA (Yq PIN (cN (A++zjO u v++B))):=by
 refine zh9 QC call180 func180 rfl ntmps180 results180 (by simp) (by decide) ?_ ?_ ?_
 .exact zeo rfl
 .exact za3
 simp only[Qj]at hl;simp only[go_sem];refine QK (fun p:List Nat×Nat=>stL 36 [(0,.one (.vec PIN 1 A.length u.length)),(1,aN v),(4,litI .u32 p.2),(8,litI .i64 u.length),(9,litI .i64 p.1.length)] [(PIN,cN (A++p.1++(u.drop p.1.length++B)))])
  (fun p=>zfC u v p.1 p.2) (fun p=>u.length-p.1.length) ([],0) ?_ ⟨Qk _,by simp,Qk _,by simp[val]⟩ ?_
 .refine Q7 rfl ?_ ?_ rfl ?_<;>simp only[go_sem,QH]<;>simp
 .rintro⟨ds,c⟩ hs
  simp only at hs ⊢;simp only[go_sem];refine QI (fun Yw=>?_) (fun YG=>?_)
  .have Yv:ds.length<u.length:=by omega
   obtain⟨x,us,hd⟩:∃ x us,u.drop ds.length=x::us:=⟨_,_,waw Yv⟩
   have hx:u[ds.length]=x:=by rw[waw Yv]at hd;exact(wdz hd).1
   have Nh:us=u.drop (ds.length+1):=by rw[waw Yv]at hd;exact(wdz hd).2.symm
   have Us:=hu _ (Qh Yv);rw[hx]at Us;simp only[BB]at Us;have hc:=hs.2.2.1;rw[hd,wb5];have V3:∀ e,(A++(ds++x::(us++B))).set (A.length+ds.length) e=A++(ds++[e])++(us++B):=fun e=>by
    rw[<-waM,<-Qj,zpy];simp
   have UG:∀ h:A.length+ds.length<(A++(ds++x::(us++B))).length,(A++(ds++x::(us++B)))[A.length+ds.length]=x:=fun h=>by
    simp only[<-waM A];simp only[<-Qj];simp
   have hw:A.length+ds.length<(A++(ds++x::(us++B))).length:=by simp only[Qj,Qe];omega
   replace UG:=UG hw
   generalize A++(ds++x::(us++B))=W at *
   simp only[go_sem,zaY hw,UG];refine⟨⟨by omega,by omega⟩,QI (fun Ni=>?_) (fun Ni=>?_)⟩
   .have Uj:ds.length<v.length:=by omega
    have hy:=hv _ (Qh Uj);simp only[BB]at hy;have ht:x+c+v[ds.length]=u[ds.length]+c+v.getD ds.length 0:=by simp[Uj,hx]
    have et:(x:Int)+(c:Int)+(v[ds.length]:Int)=((x+c+v[ds.length]:Nat):Int):=by omega
    have Yx:=hs.next hu hv Yv ht;have WD:x+c+v[ds.length]<4294967296:=by omega
    generalize x+c+v[ds.length]=t at *
    have Kc:t%1000000000<1000000000:=wav _ (by decide)
    (iterate 3((try simp only[go_sem,Q8 Uj,Ni]);try simp(disch:=omega)only[Q6,QG,et,Zu,QS]))
    refine⟨by omega,⟨by omega,by omega⟩,by rw[za8];omega,?_⟩;refine⟨(ds++[t%BB],t/BB),Yx,(by show u.length-(ds++[t%BB]).length<u.length-ds.length;rw[Qj];simp only[Qe,Qi];omega),?_⟩;refine Q7 rfl ?_ ?_ rfl ?_<;>simp only[go_sem,QH,zaF hw,V3,Nh,BB,Qj,Qe,Qi]<;>simp
   .have ht:x+c=u[ds.length]+c+v.getD ds.length 0:=by simp[show v.length<=ds.length by omega,hx]
    have et:(x:Int)+(c:Int)=((x+c:Nat):Int):=by omega
    have Yx:=hs.next hu hv Yv ht;have WD:x+c<4294967296:=by omega
    generalize x+c=t at *
    have Kc:t%1000000000<1000000000:=wav _ (by decide)
    (iterate 3((try simp only[go_sem,et]);try simp(disch:=omega)only[Q6,QG,Zu,QS]))
    refine⟨⟨by omega,by omega⟩,by rw[za8];omega,?_⟩;refine⟨(ds++[t%BB],t/BB),Yx,(by show u.length-(ds++[t%BB]).length<u.length-ds.length;rw[Qj];simp only[Qe,Qi];omega),?_⟩;refine Q7 rfl ?_ ?_ rfl ?_<;>simp only[go_sem,QH,zaF hw,V3,Nh,BB,Qj,Qe,Qi]<;>simp
  .have Vn:ds.length=u.length:=by have:=hs.1;omega
   have hR:=hs.done Vn Ww;rw[Vn,wa5];simp only[go_sem];rw[<-hR]
structure Knuth(U V D top u2 v1 v2:Nat):Prop where
 u:∃ L,L<D/\U=L+D*(u2+BB*top)
 v:∃ M,M<D/\V=M+D*(v2+BB*v1)
 u2:u2<BB
 v2:v2<BB
 v1:1<=v1
 lt:U<BB*V
section
variable {U V D top u2 v1 v2 q r:Nat}
theorem Knuth.pos(k:Knuth U V D top u2 v1 v2):0<D/\0<V:=by
 obtain⟨L,hL,_⟩:=k.u;obtain⟨M,hM,e⟩:=k.v;refine⟨by omega,?_⟩;have h1:D*1<=D*(v2+BB*v1):=waz _ (by have:=k.v1;simp only[BB];omega);omega
theorem Knuth.le{x y:Nat}(k:Knuth U V D top u2 v1 v2)(h:D*x<=U)(hy:u2+BB*top<y):x<y:=by
 obtain⟨L,hL,e⟩:=k.u;have h1:D*x<D*(u2+BB*top+1):=by rw[waf,wah];omega
 have:=wdE h1;omega
theorem Knuth.qV(k:Knuth U V D top u2 v1 v2){x:Nat}(h:x<=U/V):D*(x*(v2+BB*v1))<=U:=by
 obtain⟨M,hM,e⟩:=k.v;have h1:x*V<=U:=Qn (wak _ h) (wd3 U V);have h2:x*(D*(v2+BB*v1))<=x*V:=waz _ (by omega);have e3:D*(x*(v2+BB*v1))=x*(D*(v2+BB*v1)):=by rw[<-wae,<-wae,Qt D]
 omega
theorem Knuth.start(k:Knuth U V D top u2 v1 v2):U/V<=top/v1:=by
 rw[wdd (by have:=k.v1;omega)];have h1:=k.qV (Qd (U/V));have h2:D*(BB*(U/V*v1))<=D*(U/V*(v2+BB*v1)):=waz _ (by
  rw[waf];have:BB*(U/V*v1)=U/V*(BB*v1):=by rw[<-wae,<-wae,Qt BB]
  omega)
 have h3:=k.le (Qn h2 h1) (y:=BB*(top+1)) (by have:=k.u2;rw[waf];omega);have:=wdE h3;omega
theorem Knuth.big(k:Knuth U V D top u2 v1 v2):U/V<BB:=by
 rw[wc9 k.pos.2];exact k.lt
theorem Knuth.less(k:Knuth U V D top u2 v1 v2)(h:q*v1+r=top)(hc:r*BB+u2<q*v2):U/V<=q-1:=by
 rcases was (U/V) q with h1|h1
 .omega
 .exfalso
  have h2:=k.le (k.qV h1) (y:=u2+BB*top+1) (by omega);have e:q*(v2+BB*v1)=q*v2+BB*(q*v1):=by rw[waf,<-wae,Qt q BB,wae]
  rw[e,<-h,waf,Qt BB r]at h2;omega
theorem Knuth.done(k:Knuth U V D top u2 v1 v2)(h:q*v1+r=top)(hq:q<BB)(hc:r<BB->q*v2<=r*BB+u2):q<=U/V+1:=by
 have Pn:q*v2<=r*BB+u2:=by
  rcases was r BB with h1|h1
  .exact hc h1
  .have h2:q*v2<=BB*BB:=waB (by omega) (by have:=k.v2;omega)
   have h3:BB*BB<=r*BB:=wak _ h1;omega
 rcases was (U/V+1) q with h1|h1
 .exfalso
  obtain⟨p,rfl⟩:∃ p,q=p+1:=⟨q-1,by have:=Qk (U/V);generalize U/V=Q at *;omega⟩
  obtain⟨L,hL,eU⟩:=k.u;obtain⟨M,hM,eV⟩:=k.v;have h2:U<p*V:=by
   have:=Nat.lt_mul_div_succ U k.pos.2;rw[Qt]at this;exact wbf this (wak _ (by generalize U/V=Q at *;omega))
  have h3:p*V<=p*(D*(v2+BB*v1+1)):=waz _ (by rw[waf];omega);have h4:D*(u2+BB*top)<D*(p*(v2+BB*v1+1)):=by
   have e:D*(p*(v2+BB*v1+1))=p*(D*(v2+BB*v1+1)):=by rw[<-wae,<-wae,Qt D]
   omega
  have h5:=wdE h4;have e1:p*(v2+BB*v1+1)=p*v2+BB*(p*v1)+p:=by rw[waf,waf,wah,<-wae,Qt p BB,wae]
  have e2:BB*top=BB*(p*v1)+BB*v1+r*BB:=by rw[<-h,war,wdF,waf,waf,Qt r]
  have h6:BB*1<=BB*v1:=waz _ k.v1;rw[war]at Pn;omega
 .exact h1
end
theorem zvk{u v:List Nat}{n:Nat}(hu:∀ z∈u,z<BB)(hv:∀ z∈v,z<BB)(Wg:u.length=n+3)(Ww:v.length=n+2)(Yw:val u<BB*val v)(h1:v[n+1]≠0) :
  Knuth (val u) (val v) (BB^n) (u[n+2]*BB+u[n+1]) u[n] v[n+1] v[n]:=by
 refine⟨⟨val (u.take n),?_,?_⟩,⟨val (v.take n),?_,?_⟩,hu _ (Qh _),hv _ (Qh _),by omega,Yw⟩
 .have:=zab (xs:=u.take n) fun z hz=>hu z (waQ hz)
  rwa[wat,wbs (by omega)]at this
 .rw[zeV (xs:=u) (i:=n) (by omega),waw (i:=n+1) (by omega),waw (i:=n+2) (by omega),wdu (by omega)]
  simp only[val,waR,wap];rw[wcX u[n+1],Qt BB u[n+2]]
 .have:=zab (xs:=v.take n) fun z hz=>hv z (waQ hz)
  rwa[wat,wbs (by omega)]at this
 .rw[zeV (xs:=v) (i:=n) (by omega),waw (i:=n+1) (by omega),wdu (by omega)]
  simp only[val,waR,wap]
theorem zop{u v:List Nat}(Va:0<val v)(hB:val v<BB^u.length):zbY u v (val u/val v)=pad u.length (val u%val v)/\zd0 u v (val u/val v)=0:=by
 have h1:=wd3 (val u) (val v);have hb:zd0 u v (val u/val v)=0:=Qc h1;refine⟨?_,hb⟩;unfold zbY;rw[hb,waR,wap];congr 1;have:=wcj (val u) (val v);rw[Qt]at this;omega
theorem zm6{u v:List Nat}(hu:∀ z∈u,z<BB)(Va:0<val v)(hB:val v<BB^u.length):zjO (zbY u v (val u/val v+1)) v=pad u.length (val u%val v)/\zd0 u v (val u/val v+1)=1:=by
 have h1:=wd3 (val u) (val v);have h2:=Nat.lt_mul_div_succ (val u) Va;rw[Qt]at h2;have hb:zd0 u v (val u/val v+1)=1:=Qb (by omega);refine⟨?_,hb⟩;have hm:=wcj (val u) (val v);rw[Qt]at hm;have hr:=wav (val u) Va;have he:(val u/val v+1)*val v=val u/val v*val v+val v:=by rw[war,wdF]
 unfold zjO zbY;rw[hb,wah,zdL,zlv (by omega)];congr 1;rw[show val u+BB^u.length-(val u/val v+1)*val v+val v=val u%val v+BB^u.length by omega,Nat.add_mod_right,wbr (by omega)]
theorem zsn(A u B v:List Nat)(n:Nat)(hl:(A++u++B).length<10000000000000)(hu:∀ z∈u,z<BB)(hv:∀ z∈v,z<BB)(Wg:u.length=n+3)(Ww:v.length=n+2)(Yw:val u<BB*val v)(h1:v[n+1]≠0) :
  Zf prog 177 [.one (.vec PIN 1 A.length u.length),aN v] (Yq PIN (cN (A++u++B))) (litI .u32 (val u/val v:Nat)) (Yq PIN (cN (A++pad u.length (val u%val v)++B))):=by
 refine zh9 QC call177 func177 rfl ntmps177 results177 (by simp) (by decide) ?_ ?_ ?_
 .exact zeo rfl
 .exact za3
 have Y0:(A++u++B).length=A.length+(n+3)+B.length:=by simp[Wg];omega
 have k:=zvk hu hv Wg Ww Yw h1;have PQ:=hu u[n] (Qh _);have PS:=hu u[n+1] (Qh _);have PT:=hu u[n+2] (Qh _);have EU:=hv v[n] (Qh _);have PU:=hv v[n+1] (Qh _);simp only[BB]at PQ PS PT EU PU;have hw:∀ i,i<n+3->A.length+i<(A++(u++B)).length:=fun i hi=>by simp[Wg];omega
 have hg:∀ i (hi:i<n+3),(A++(u++B))[A.length+i]'(hw i hi)=u[i]:=fun i hi=>by
  rw[wbA (by omega)];simp only[wdj];rw[wbt]
 have c0:=zaY (hw n (by omega));have c1:=zaY (hw (n+1) (by omega));have c2:=zaY (hw (n+2) (by omega));rw[hg _ (by omega)]at c0 c1 c2;have et:(u[n+2]:Int)*1000000000+(u[n+1]:Int)=((u[n+2]*BB+u[n+1]:Nat):Int):=by simp only[BB];omega
 have WD:u[n+2]*BB+u[n+1]<1000000000000000000:=by simp only[BB];omega
 generalize hT:u[n+2]*BB+u[n+1]=top at *
 have PV:QM Zo v n=Zo v[n]:=Q8 (by omega);have La:QM Zo v (n+1)=Zo v[n+1]:=Q8 (by omega);have Um:=k.start;have Jb:=k.big;have Vz:=k.v1;generalize KK:v[n+1]=v1 at *
 generalize WE:v[n]=v2 at *
 generalize Vq:u[n]=u2 at *
 generalize WG:u[n+1]=u1 at *
 generalize JY:u[n+2]=u0 at *
 rw[<-Ww]at c2;obtain⟨m1,X6⟩:∃ m1,m1=n+1:=⟨_,rfl⟩
 rw[<-X6]at c1 La;have j1:(v.length:Int)-1=(m1:Int):=by omega
 have j2:(v.length:Int)-2=(n:Int):=by omega
 (iterate 3((try simp only[go_sem]);try simp(disch:=omega)only[Q6,QE,QG,Q8]))
 refine Q4 0 rfl ?_
 (iterate 3((try simp only[go_sem,j1,c1,c2]);try simp(disch:=omega)only[Q6,QE,et]))
 refine⟨⟨by omega,by omega⟩,⟨by omega,by omega⟩,Q4 0 rfl ?_⟩;have HF:top/v1*v1+top%v1=top:=by rw[Qt];exact wcj top v1
 have Vn:top/v1<=top:=wci _ _;have RZ:top%v1<=top:=Nat.mod_le _ _;have eq1:Int.tdiv (top:Int) (v1:Int)=((top/v1:Nat):Int):=zrm;have er1:Int.tmod (top:Int) (v1:Int)=((top%v1:Nat):Int):=zrl;generalize top/v1=q0 at *
 generalize top%v1=r0 at *
 have Kv:v[m1]'(by omega)=v1:=by subst X6;exact KK
 (iterate 3((try simp only[go_sem,j1,Kv]);try simp(disch:=omega)only[Q6,QE,Q8,eq1,er1]))
 refine⟨⟨by omega,by omega⟩,fun _=>by omega,⟨by omega,by omega⟩,fun _=>by omega,?_⟩;refine QK (fun p:Nat×Nat=>stL 87 [(0,.one (.vec PIN 1 A.length u.length)),(1,aN v),(5,litI .i64 v.length),(7,litI .u64 p.1),(8,litI .u64 p.2)] [(PIN,cN (A++(u++B)))])
  (fun p=>p.1*v1+p.2=top/\val u/val v<=p.1) (fun p=>p.1) (q0,r0) ?_ ⟨HF,Um⟩ ?_
 .refine Q7 rfl ?_ ?_ rfl ?_<;>simp only[go_sem,QH]<;>simp
 .rintro⟨q,r⟩ ⟨Gl,hQ⟩
  simp only at Gl hQ ⊢;have Tg:q*1<=q*v1:=waz _ Vz;by_cases XI:(1000000000:Int)<=(q:Int)
  .have PW:q<=top:=by omega
   (iterate 3((try simp only[go_sem]);try simp(disch:=omega)only[Q6,QE,QG,Q8,XI]))
   refine Q4 0 rfl ?_
   (iterate 3((try simp only[go_sem,XI]);try simp(disch:=omega)only[Q6,QE,Q8]))
   obtain⟨p,hp⟩:∃ p,p+1=q:=⟨q-1,by omega⟩
   have ep:(q:Int)-1=(p:Int):=by omega
   have er:(r:Int)+(v1:Int)=((r+v1:Nat):Int):=by omega
   have ND:p*v1+(r+v1)=top:=by rw[<-Gl,<-hp,war];omega
   (iterate 3((try simp only[go_sem,ep,j1,Kv]);try simp(disch:=omega)only[QE,er]))
   refine⟨⟨by omega,by omega⟩,(p,r+v1),⟨ND,by generalize val u/val v=Q at *;simp only[BB]at Jb;omega⟩,(by show p<q;omega),?_⟩;refine Q7 rfl ?_ ?_ rfl ?_<;>(iterate 3((try simp only[go_sem,QH]);try simp(disch:=omega)only[Q6,QE,QG,Q8,QH,ep,er]))<;>simp
  .have Ks:q<BB:=by simp only[BB];omega
   by_cases Ug:(r:Int)<1000000000
   .have WH:q*v2<=999999999*999999999:=waB (by omega) (by omega)
    have eqv:(q:Int)*(v2:Int)=((q*v2:Nat):Int):=by omega
    have DJ:v[n]'(by omega)=v2:=WE
    (iterate 3((try simp only[go_sem]);try simp(disch:=omega)only[Q6,QE,QG,Q8,XI,Ug]))
    refine Q4 0 rfl ?_
    (iterate 3((try simp only[go_sem,XI,Ug,j2,DJ,c0]);try simp(disch:=omega)only[Q6,QE,Q8,eqv]))
    refine⟨⟨by omega,by omega⟩,⟨by omega,by omega⟩,QI (fun hc=>?_) (fun hc=>?_)⟩
    .have PX:=k.less Gl (show r*BB+u2<q*v2 by simp only[BB];omega)
     have Ut:q≠0:=by rintro rfl;simp at hc;omega
     obtain⟨p,hp⟩:∃ p,p+1=q:=⟨q-1,by omega⟩
     have ep:(q:Int)-1=(p:Int):=by omega
     have er:(r:Int)+(v1:Int)=((r+v1:Nat):Int):=by omega
     have ND:p*v1+(r+v1)=top:=by rw[<-Gl,<-hp,war];omega
     (iterate 3((try simp only[go_sem,ep,j1,Kv]);try simp(disch:=omega)only[Q6,QE,Q8,er]))
     refine⟨⟨by omega,by omega⟩,(p,r+v1),⟨ND,by generalize val u/val v=Q at *;omega⟩,(by show p<q;omega),?_⟩;refine Q7 rfl ?_ ?_ rfl ?_<;>(iterate 3((try simp only[go_sem,QH]);try simp(disch:=omega)only[Q6,QE,QG,Q8,QH,ep,er]))<;>simp
    ·(iterate 3((try simp only[go_sem]);try simp(disch:=omega)only[Q6,QE,QG,Q8]))
     have Y5:=k.done Gl Ks (fun _=>by simp only[BB];omega);have Va:=k.pos.2;have DK:val v<BB^u.length:=wbf (zab hv) (waT (by decide) (by omega));refine zeW PIN (by decide) (zm1 A u B v q (by rw[Y0];omega) hu hv Ks (by omega)) (by simp only[go_sem]<;>rfl) (by simp only[go_sem]<;>rfl) (zeo rfl) za3 za3 ?_;have Xn:q=val u/val v\/q=val u/val v+1:=by generalize val u/val v=Q at *;omega
     rcases Xn with hc|hc
     .have hd:=zop Va DK
      rw[<-hc]at hd ⊢;rw[hd.1,hd.2]
      (iterate 3((try simp only[go_sem]);try simp(disch:=omega)only[QG]))
     .have hd:=zm6 hu Va DK
      rw[<-hc]at hd;have Nb:=hd.2;have WZ:=hd.1;rw[Nb];have ep:(q:Int)-1=((val u/val v:Nat):Int):=by generalize val u/val v=Q at *;omega
      generalize val u/val v=Q at *
      (iterate 3((try simp only[go_sem]);try simp(disch:=omega)only[Q6,QE,QG,Q8]))
      refine zeW PIN (by decide) (zne A (zbY u v q) B v (by simp only[Qj,zbY,zdL]at hl ⊢;omega) zjt hv (by simp only[zbY,zdL];omega)) (by simp only[go_sem]<;>rfl) (by simp only[go_sem,zbY,zdL]<;>rfl) (zeo rfl) za3 za3 ?_;rw[WZ]
      (iterate 3((try simp only[go_sem,ep]);try simp(disch:=omega)only[QE,QG]))
   ·(iterate 3((try simp only[go_sem]);try simp(disch:=omega)only[Q6,QE,QG,Q8,XI,Ug]))
    refine Q4 0 rfl ?_
    (iterate 3((try simp only[go_sem,XI,Ug]);try simp(disch:=omega)only[Q6,QE,QG,Q8,XI,Ug]))
    have Y5:=k.done Gl Ks (fun h=>Qo h (by simp only[BB];omega));have Va:=k.pos.2;have DK:val v<BB^u.length:=wbf (zab hv) (waT (by decide) (by omega));refine zeW PIN (by decide) (zm1 A u B v q (by rw[Y0];omega) hu hv Ks (by omega)) (by simp only[go_sem]<;>rfl) (by simp only[go_sem]<;>rfl) (zeo rfl) za3 za3 ?_;have Xn:q=val u/val v\/q=val u/val v+1:=by generalize val u/val v=Q at *;omega
    rcases Xn with hc|hc
    .have hd:=zop Va DK
     rw[<-hc]at hd ⊢;rw[hd.1,hd.2]
     (iterate 3((try simp only[go_sem]);try simp(disch:=omega)only[QG]))
    .have hd:=zm6 hu Va DK
     rw[<-hc]at hd;have Nb:=hd.2;have WZ:=hd.1;rw[Nb];have ep:(q:Int)-1=((val u/val v:Nat):Int):=by generalize val u/val v=Q at *;omega
     generalize val u/val v=Q at *
     (iterate 3((try simp only[go_sem]);try simp(disch:=omega)only[Q6,QE,QG,Q8]))
     refine zeW PIN (by decide) (zne A (zbY u v q) B v (by simp only[Qj,zbY,zdL]at hl ⊢;omega) zjt hv (by simp only[zbY,zdL];omega)) (by simp only[go_sem]<;>rfl) (by simp only[go_sem,zbY,zdL]<;>rfl) (zeo rfl) za3 za3 ?_;rw[WZ]
     (iterate 3((try simp only[go_sem,ep]);try simp(disch:=omega)only[QE,QG]))
structure DivI(X V N:Nat)(n k:Nat)(qs U:List Nat):Prop where
 ul:U.length=N
 u:∀ z∈U,z<BB
 q:∀ z∈qs,z<BB
 e:BB^k*val qs*V+val U=X
 lt:val (U.drop k)<V
 fit:k+n+2<=N
section
variable {X V N n j:Nat} {qs U:List Nat}
theorem DivI.part(h:DivI X V N n (j+1) qs U)(hV:V<BB^(n+2)):∃ A u B,U=A++u++B/\A.length=j/\u.length=n+3/\val u<BB*V/\val B=0/\U=A++(u++B)/\(∀ z∈u,z<BB):=by
 have hf:=h.fit;have hl:=h.ul;have hj:j<U.length:=by omega
 refine⟨U.take j,(U.drop j).take (n+3),(U.drop j).drop (n+3),?_,?_,?_,?_,?_,?_,?_⟩
 .rw[waM,wb2,wb2]
 .rw[wat];omega
 .rw[wat,wd9];omega
 .rw[waw hj,wcU]
  simp only[val];have h1:=h.u _ (Qh hj);have h2:val ((U.drop (j+1)).take (n+2))<=val (U.drop (j+1)):=by
   conv=>rhs;rw[<-wb2 (n+2) (U.drop (j+1)),za0]
   omega
  have h3:=h.lt;have h4:BB*(val ((U.drop (j+1)).take (n+2))+1)<=BB*V:=waz _ (by omega);rw[waf]at h4;omega
 .have h3:=h.lt
  rw[<-wb2 (n+2) (U.drop (j+1)),za0,wat,wd9,wbs (by omega),wcx]at h3;rw[wcx,show j+(n+3)=j+1+(n+2) by omega];rcases wcb (val (U.drop (j+1+(n+2))))with h0|h0
  .exact h0
  .have:BB^(n+2)*1<=BB^(n+2)*val (U.drop (j+1+(n+2))):=waz _ h0
   omega
 .rw[wb2,wb2]
 .exact fun z hz=>h.u z (wd7 (waQ hz))
theorem DivI.next{A u B:List Nat}(h:DivI X V N n (j+1) qs (A++u++B))(hV:V<BB^(n+2))(EU:0<V)(hA:A.length=j)(hu:u.length=n+3)(Yw:val u<BB*V)(hB:val B=0) :
  DivI X V N n j (val u/V::qs) (A++pad u.length (val u%V)++B):=by
 have hr:=wav (val u) EU;have hp:BB^(n+2)<=BB^(n+3):=waT (by decide) (by omega);have Gd:val (pad u.length (val u%V))=val u%V:=zlv (by rw[hu];omega);refine⟨?_,?_,?_,?_,?_,?_⟩
 .have:=h.ul;simpa[zdL]using this
 .intro z hz
  simp only[wan]at hz;rcases hz with(hz|hz)|hz
  .exact h.u z (by simp[hz])
  .exact zjt z hz
  .exact h.u z (by simp[hz])
 .intro z hz
  rcases wab.1 hz with rfl|hz
  .rw[wc9 EU];exact Yw
  .exact h.q z hz
 .have he:=h.e
  rw[za0,za0,hB,waR,wap,hA]at he ⊢;rw[Gd,<-he];have hd:=wcj (val u) V;have e1:=congrArg (BB^j*·) hd;simp only[waf]at e1;simp only[val];have e2:BB^j*(val u/V+BB*val qs)*V=BB^j*(V*(val u/V))+BB^(j+1)*val qs*V:=by
   rw[waf,war,waP,wae,Qt (val u/V),wae (BB^j) BB]
  rw[e2];omega
 .rw[waM,<-hA,List.drop_left,za0,Gd,hB]
  simpa using hr
 .have:=h.fit;omega
end
theorem zze{y:List Nat}{n:Nat}(hy:IsN y)(hl:y.length=n+2):∃ d,d=1000000000/(y[n+1]+1)/\1<=d/\d<BB/\(dig (val y*d)).length=n+2/\BB^(n+1)<=val y/\val y*d<BB^(n+2):=by
 have h1:=hy.1 y[n+1] (Qh _);have h2:=zqL hy (by intro e;rw[e]at hl;simp at hl);rw[hl,show n+2-1=n+1 from rfl]at h2;have h0:y[n+1]≠0:=by
  have:=hy.2;rw[wco,waa (by omega)]at this;simpa[hl]using this
 refine⟨_,rfl,?_,?_,?_,h2,?_⟩
 .rw[wdd (by omega)];simp only[BB]at h1;omega
 .exact wbZ (Nat.div_le_div_left (show 2<=y[n+1]+1 by omega) (by decide)) (by decide)
 all_goals
  have h3:1<=1000000000/(y[n+1]+1):=by rw[wdd (by omega)];simp only[BB]at h1;omega
  have h4:(y[n+1]+1)*(1000000000/(y[n+1]+1))<=BB:=Nat.mul_div_le _ _;generalize 1000000000/(y[n+1]+1)=d at *
  have h5:val y<BB^(n+1)*(y[n+1]+1):=by
   have h6:=zeV (xs:=y) (i:=n+1) (by omega);have h7:=zab (xs:=y.take (n+1)) fun z hz=>hy.1 z (waQ hz)
   rw[wat,wbs (by omega)]at h7;rw[wdu (by omega)]at h6;simp only[val,waR,wap]at h6;rw[waf];omega
  have h8:val y*d<BB^(n+2):=by
   have h9:val y*d<BB^(n+1)*(y[n+1]+1)*d:=wdp h5 h3;rw[wae]at h9;exact wbf h9 (by rw[waP BB (n+1)];exact waz _ h4)
 .have We:=zbJ h8
  rcases was (dig (val y*d)).length (n+2)with h|h
  .exfalso
   have Ht:=zab (zdd (val y*d));rw[za5]at Ht;have Hu:BB^(dig (val y*d)).length<=BB^(n+1):=waT (by decide) (by omega);have Hv:val y*1<=val y*d:=waz _ h3;omega
  .omega
 .exact h8
theorem ziz(a b:List Nat)(ha:a.length<1000000000000)(hb:b.length<1000000000000):Q9 prog 168 [tN a,tN b] (.tup [tN (dig (vN a/vN b)),tN (dig (vN a%vN b))]):=by
 refine QJ QC call168 func168 rfl ntmps168 results168 (by simp) (by decide) ?_;simp only[go_sem];refine Q3 (zcs a (by omega)) rfl ?_;simp only[go_sem];refine Q3 (zcs b (by omega)) rfl ?_;have UW:=zan a;have VU:=zan b;have hX:=zag a;have hY:=zag b;have eA:vN (held a)=vN a:=by rw[<-zgu,Zx]
 have eB:vN (held b)=vN b:=by rw[<-zgu,Zx]
 have eA':vN a=val (held a):=rfl;have eB':vN b=val (held b):=rfl;have Dm:=zfT (held a) (held b) (by omega) (by omega);have Kq:=fun d hd=>zim (held b) d (by omega) hd
 have Kr:=fun d hd=>zto (held a) d (by omega) hd
 rw[eA,eB]at Dm;rw[eB]at Kq;rw[eA]at Kr;rw[eA',eB']at *
 clear eA eB eA' eB';generalize held a=x at *
 generalize held b=y at *
 have hx:=hX.1;have hy:=hY.1;have Jf:=zo5 x (by omega);by_cases Vq:y=[]
 .subst Vq
  simp only[go_sem];refine Q3 Jf rfl ?_;simp only[go_sem];rw[show val []=0 from rfl,Nat.div_zero,Nat.mod_zero,Zi,hX.trimZ];exact zaW zcz Yr
 have L1:0<y.length:=wa6.2 Vq;have WG:¬((y.length:Int)=0):=by omega
 simp only[go_sem,WG];refine Q3 Dm rfl ?_;by_cases Yw:val x<val y
 .have Ns:QY (val x) (val y) = -1:=by unfold QY;rw[Qc (by omega)]
  rw[Ns];simp only[go_sem];refine Q3 Jf rfl ?_;simp only[go_sem];rw[wbm Yw,wbr Yw,Zi,hX.trimZ];exact zaW zcz Yr
 have Ns:¬(QY (val x) (val y)<0):=by unfold QY;rw[Qb (by omega)];split<;>omega
 simp only[go_sem,Ns];by_cases JY:y.length=1
 .obtain⟨y0,rfl⟩:∃ y0,y=[y0]:=by
   match y,JY with
   |[y0],_=>exact⟨y0,rfl⟩
  have Dn:=hy y0 (by simp);have hne:y0≠0:=by have:=hY.2;simpa using this
  have Y1:QM Zo [y0] 0=Zo y0:=Q8 (by simp);have KL:val x%y0<y0:=wav _ (by omega);have Va:val [y0]=y0:=by simp[val]
  rw[Va];have EN:=znP x y0 (by omega) hx (by omega) Dn;simp only[BB]at Dn;generalize val x%y0=r at *
  generalize val x/y0=q at *
  (iterate 3((try simp only[go_sem,Y1]);try simp(disch:=omega)only[Q6,QE,QG,Q8,Y1]))
  refine Q3 EN rfl ?_
  (iterate 3((try simp only[go_sem]);try simp(disch:=omega)only[QE]))
  refine Q3 (ziX r (by omega)) rfl ?_;simp only[go_sem];exact zaW Yr Yr
 have Mo:¬((y.length:Int)=1):=by omega
 obtain⟨n,hn⟩:∃ n,y.length=n+2:=⟨y.length-2,by omega⟩
 obtain⟨d,hd,KY,K9,Ww,Hw,Hx⟩:=zze hY hn;obtain⟨m1,X6⟩:∃ m1,m1=n+1:=⟨_,rfl⟩
 have Re:y[m1]'(by omega)=y[n+1]:=by subst X6;rfl
 have WD:=hy _ (Qh (show n+1<y.length by omega));generalize y[n+1]=t at *
 have j1:(y.length:Int)-1=(m1:Int):=by omega
 have ed:Int.tdiv 1000000000 ((t:Int)+1)=(d:Int):=by rw[hd];rfl
 have Hy:=WD;have Hz:=K9;simp only[BB]at Hy Hz;have Db:dig d=[d]:=by rw[zce (by omega),wbr K9,wbm K9,Zi]
 have Mp:vN [d]=d:=by rw[<-Db,Zx]
 have Do:val x≠0:=by
  have:0<BB^(n+1):=waZ (by decide);omega
 have Mq:=ziX d (by omega);rw[Db]at Mq
 replace Kr:=Kr [d] (by simp) Do (by rw[Mp];omega)
 replace Kq:=Kq [d] (by simp)
 rw[Mp]at Kr Kq;have Dp:(dig (val x*d)).length<=x.length+1:=zbJ (by
  have h1:=zab hx;rw[waP];exact Nat.mul_lt_mul_of_lt_of_le h1 (by omega) (by omega))
 have R7:=zdd (val y*d);have R8:=zdd (val x*d);have EF:=zjb (val y*d);have Rv:=za5 (val y*d);have Mr:=za5 (val x*d);obtain⟨v,hv⟩:∃ v,v=dig (val y*d):=⟨_,rfl⟩
 obtain⟨u,hu⟩:∃ u,u=dig (val x*d):=⟨_,rfl⟩
 rw[<-hv]at Ww Kq R7 EF Rv;rw[<-hu]at Kr Dp R8 Mr;clear hv hu
 (iterate 3((try simp only[go_sem,Mo,j1,Re]);try simp(disch:=omega)only[Q6,QE,Q8,ed]))
 refine⟨⟨by omega,by omega⟩,fun _=>by omega,?_⟩;refine Q3 Mq rfl ?_
 (iterate 3((try simp only[go_sem]);try simp(disch:=omega)only[Q6,QE,QG,Q8]))
 refine zf3 59 (by decide) Kr rfl (by simp only[go_sem]) (by decide) ?_
 (iterate 3((try simp only[go_sem]);try simp(disch:=omega)only[Q6,QE,QG,Q8]))
 refine Q3 Kq rfl ?_;have eL:(x.length:Int)+1-(u.length:Int)=((x.length+1-u.length:Nat):Int):=by omega
 have H0:u.length+(x.length+1-u.length)=x.length+1:=by omega
 (iterate 3((try simp only[go_sem]);try simp(disch:=omega)only[Q6,eL]))
 refine zvY (Qd _) (sz:=1) (bytes:=4) (f:=Zo) 0 (L:=x.length+1-u.length) (by simp only[go_sem,zrb]<;>decide) Z4 u (by simp only[go_sem]<;>rfl) rfl (by simp only[go_sem]<;>rfl) (by simp only[go_sem]<;>rfl) (by rw[H0];omega) (by decide) ?_;rw[H0];generalize hU:u++List.replicate (x.length+1-u.length) 0=U;have EO:U.length=x.length+1:=by rw[<-hU,Qj,List.length_replicate,H0]
 have Ms:val U=val x*d:=by rw[<-hU,za0,zj1,Mr];simp
 have Ps:∀ z∈U,z<BB:=fun z hz=>by
  rw[<-hU]at hz;rcases wan.1 hz with hz|hz
  .exact R8 z hz
  .rw[wdU hz];decide
 obtain⟨N,hN⟩:∃ N,N=x.length+1:=⟨_,rfl⟩
 obtain⟨m,hm⟩:∃ m,m=x.length-y.length+1:=⟨_,rfl⟩
 have Ec:y.length<=x.length:=by
  rcases was x.length y.length with h|h
  .exact Qo (zdC hX hY h) Yw
  .exact h
 have em:(x.length:Int)-(y.length:Int)+1=(m:Int):=by omega
 rw[<-hN];have Dq:val v<BB^(n+2):=by rw[Rv];exact Hx
 have R9:0<val v:=by
  rw[Rv];have:0<BB^(n+1):=waZ (by decide);exact wcI (by omega) (by omega)
 have Vz:v[n+1]≠0:=by
  have:=EF.2;rw[wco,waa (by omega)]at this;simpa[Ww]using this
 have Um:DivI (val x*d) (val v) N n m [] U:=by
  refine⟨by omega,Ps,by simp,by rw[<-Ms];simp[val],?_,by omega⟩;have h1:U=U.take m++U.drop m:=(wb2 m U).symm;have h2:=congrArg val h1;rw[za0,wat,wbs (by omega),Ms]at h2;have h3:=zab hx;have h4:val x*d<BB^x.length*d:=wdp h3 (by omega);have h5:BB^x.length*d<=BB^m*val v:=by
   rw[Rv,show x.length=m+(n+1) by omega,wbe,wae];exact waz _ (wak _ Hw)
  have h6:BB^m*val (U.drop m)<BB^m*val v:=by omega
  exact wdE h6
 (iterate 3((try simp only[go_sem]);try simp(disch:=omega)only[Q6,em]))
 refine⟨by omega,?_⟩;obtain⟨m',JG⟩:∃ m',m=m'+1:=⟨m-1,by omega⟩
 have em':(m:Int)-1=(m':Int):=by omega
 rw[JG]at Um;refine QK (fun p:Nat×List Nat×List Nat=>match p.1 with
   |0=>stL 110 [(8,aN [d]),(9,aN p.2.2),(10,aN v),(11,.one (.vec 77 1 0 m)),(12,litI .i64 (-1))] [(77,cN p.2.1)]
   |j+1=>stL 110 [(8,aN [d]),(9,.one (.vec 59 1 0 N)),(10,aN v),(11,.one (.vec 77 1 0 m)),(12,litI .i64 (j:Int))] [(59,cN p.2.2),(77,cN (List.replicate (j+1) 0++p.2.1))])
  (fun p=>p.1+p.2.1.length=m/\DivI (val x*d) (val v) N n p.1 p.2.1 p.2.2) (fun p=>p.1) (m'+1,[],U) ?_ ⟨by simp;omega,Um⟩ ?_
 .refine Q7 rfl ?_ ?_ rfl ?_<;>(iterate 3((try simp only[go_sem,em',QH,ze5,wal]);try simp(disch:=omega)only[Q6,QE,QG,Q8,em,em',QH,ze5,wal]))<;>simp[JG]
 .rintro⟨k,qs,U⟩ ⟨KA,hs⟩
  simp only at KA hs ⊢;cases k with
  |succ j =>
   simp only;have Pt:=hs.fit;obtain⟨A,u,B,hU,hA,Wg,Dr,HA,Pu,Pv⟩:=hs.part Dq;have EO:=hs.ul;rw[hU]at hs;have Yx:=hs.next Dq R9 hA Wg Dr HA;rw[Pu]at EO ⊢;have Mt:(A++u++B).length=N:=by rw[waM];exact EO
   have HB:=zsn A u B v n (by omega) Pv R7 Wg Ww Dr Vz;obtain⟨H,hH⟩:∃ H,H=j+v.length+1:=⟨_,rfl⟩
   have eH:(j:Int)+(v.length:Int)+1=(H:Int):=by omega
   have eHu:H-j=u.length:=by omega
   have Ks:=Yx.q _ (wam ..);simp only[BB]at Ks;generalize val u/val v=q at *
   have XY:(0:Int)<=(j:Int):=by omega
   have hw:j<(List.replicate (j+1) 0++qs).length:=by simp;omega
   (iterate 3((try simp only[go_sem,XY,eHu]);try simp(disch:=omega)only[Q6,eH,show(0:Int)<=(H:Int) by omega]))
   refine⟨⟨by omega,by omega,by omega⟩,?_⟩;refine zeW 59 (by decide) HB (by simp only[go_sem]<;>rfl) (by simp only[go_sem,hA]<;>rfl) (zeo rfl) za3 za3 ?_
   (iterate 3((try simp only[go_sem,XY]);try simp(disch:=omega)only[Q6]))
   refine⟨by omega,by rw[za8];omega,?_⟩;refine⟨(j,q::qs,A++pad u.length (val u%val v)++B),⟨by simp;omega,Yx⟩,waN j,?_⟩;cases j with
   |succ i =>
    have e:((i+1:Nat):Int)-1=(i:Int):=by omega
    have e':(i:Int)+1-1=(i:Int):=by omega
    refine Q7 rfl ?_ ?_ rfl ?_<;>(iterate 3((try simp only[go_sem,e',QH,zaF hw,zg3]);try simp(disch:=omega)only[Q6,QE,QG,Q8,e,e',QH,zaF hw,zg3]))<;>simp
   |zero =>
    refine GStep.trans (zbu (b:=59) (sz:=1) (len:=N) (x:=eN (A++(pad u.length (val u%val v)++B))) (by simp only[go_sem]<;>rfl) (by have h7:=Yx.ul;rw[waM]at h7;rw[<-h7];exact Yl Z4)) ?_;refine Q7 rfl ?_ ?_ rfl ?_<;>(iterate 3((try simp only[go_sem,QH]);try simp(disch:=omega)only[Q6,QE,QG,Q8,QH,zaF hw,zg3]))<;>simp<;>rw[ztl]<;>rfl
  |zero =>
   simp only;have Vn:qs.length=m:=by omega
   have EO:=hs.ul;simp only[go_sem];have he:=hs.e;have Rf:=hs.lt;rw[wdx,wdF]at he;rw[wbM]at Rf;have Gd:0<val v:=R9;have hq:val qs=val x/val y:=by
    have h1:val x*d/val v=val qs:=by rw[<-he,Qt,wda Gd,wbm Rf,wap]
    rw[<-h1,Rv,Nat.mul_div_mul_right _ _ (by omega)]
   have hr:val U=val x%val y*d:=by
    have h1:val x*d%val v=val U:=by rw[<-he,Qt,wdb,wbr Rf]
    rw[<-h1,Rv,Nat.mul_mod_mul_right]
   have Pw:=zcH hs.u;have VQ:=zfO U (by omega);rw[Pw]at VQ;have Mu:(dig (val U)).length<=U.length:=zbJ (zab hs.u);have EN:=znP (dig (val U)) d (by omega) (zdd _) (by omega) K9;rw[za5,hr,Nat.mul_div_cancel _ (show 0<d by omega),<-hr]at EN;have Y1:QM Zo [d] 0=Zo d:=Q8 (by simp);have Rx:=zcH hs.q;rw[hq]at Rx;refine Q4 0 rfl ?_;simp only[go_sem];refine Q3 VQ rfl ?_;simp only[go_sem,Y1];refine Q3 EN rfl ?_;simp only[go_sem];refine zbM 77 1 m rfl (zfO qs (by omega)) (by simp only[go_sem]<;>rfl) (by rw[<-Vn];exact Yl Z4) ?_ ?_
   .simp only[go_sem]<;>rfl
   .simp only[go_sem]
    rw[Rx];exact zaW Yr Yr
end Go.Proofs.YtlgjjcmljmjenaaGreat
