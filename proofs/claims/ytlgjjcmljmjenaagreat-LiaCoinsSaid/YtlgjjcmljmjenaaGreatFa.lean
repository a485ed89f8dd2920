/- At every input the call answers true and leaves its arguments as they were; no conditions. -/
import Derived.Test.YtlgjjcmljmjenaaGreatAd
import Derived.Test.YtlgjjcmljmjenaaGreatNa
import Derived.Test.YtlgjjcmljmjenaaGreatTa
set_option linter.unusedSimpArgs false
set_option linter.unusedVariables false
set_option maxRecDepth 100000
set_option maxHeartbeats 1000000
namespace Go.Proofs.YtlgjjcmljmjenaaGreat
open Go Go.Abs Go.Proofs.Tryz
attribute [go_sem] reduceIte Nat.reduceEqDiff Nat.reduceLT Nat.reduceLeDiff Nat.reduceAdd Nat.reduceSub Nat.reduceMul Nat.reducePow Int.reduceNe Int.reduceLT Int.reduceLE Int.reduceEq Int.reduceToNat Int.reduceNeg Int.reduceAdd Int.reduceSub reduceCtorEq not_false_eq_true not_true_eq_false ne_eq
theorem QB:prog.follows .mixedOrders=true:=by kernel_rfl
def Zr(n:Nat):List T:=[.lit (.int .u32 (n:Int))]
attribute [go_sem] Zr
theorem Z3(x:Nat):(Zr x).length=1:=rfl
abbrev eN(xs:List Nat):T:=eL Zr xs
abbrev cN(xs:List Nat):List C:=Q5 Zr xs
abbrev tN(xs:List Nat):TV:=.one (eN xs)
abbrev aN(xs:List Nat):AV:=.one (.t (eN xs))
abbrev tB(b:Bool):TV:=.one (.lit (.bool b))
abbrev tI(k:IntKind)(n:Int):TV:=.one (.lit (.int k n))
theorem za0{xs:List Nat}{i:Nat}(hi:i<xs.length):(cN xs).drop i = .t (.lit (.int .u32 (xs[i]:Int)))::cN (xs.drop (i+1)):=by
 have:=ziy (f:=Zr) (sz:=1) Z3 hi;rwa[wai]at this
theorem zxK{xs:List Nat}{i:Nat}(hi:i<xs.length){y:Nat}:Yq (cN xs) i [.t (.lit (.int .u32 (y:Int)))]=cN (xs.set i y):=by
 have:=zgZ (f:=Zr) (sz:=1) Z3 hi (y:=y);rwa[wai]at this
theorem zaY{xs:List Nat}:(cN xs).length=xs.length:=by rw[zcG Z3,wai]
theorem za6{xs:List Nat}:(cN xs).all zd9=true:=by
 simp only[cN,Q5,wac,Qp];rintro x ⟨y,_,rfl⟩;rfl
theorem zk9(xs:List Nat)(hl:xs.length<30000000000000):Q7 prog 112 [tN xs] (tB (decide (IsN xs))):=by
 refine QH QB call112 func112 rfl ntmps112 results112 (by simp) (by decide) ?_;simp only[go_sem];refine QJ (fun i:Nat=>stL 26 [(0,.one (.t (eN xs))),(5,.one (.t (eN xs))),(6,litI .i64 xs.length),(7,litI .i64 i)] []) (fun i=>i<=xs.length/\∀ j (h:j<xs.length),j<i->xs[j]<1000000000) (fun i=>xs.length-i) 0 ?_ ⟨Qk _,fun j h hj=>Qn hj (wa5 _)⟩ ?_
 .refine Q6 rfl ?_ ?_ rfl rfl<;>simp only[go_sem]<;>simp
 .rintro i ⟨hi,YS⟩
  simp only[go_sem];refine QI (fun Y1=>?_) (fun YI=>?_)
  .have Yz:i<xs.length:=by omega
   simp only[go_sem,Q8 Yz,Y1];refine⟨by omega,QI (fun h=>?_) (fun h=>?_)⟩
   .simp only[go_sem]
    symm;simp only[decide_eq_false_iff_not];intro hc;have:=hc.1 xs[i] (Qf _);simp only[BB]at this;omega
   .simp only[go_sem]
    refine⟨i+1,⟨Yz,fun j hj JD=>?_⟩,(by show xs.length-(i+1)<xs.length-i;omega),?_⟩
    .by_cases e:j=i
     .subst e;omega
     .exact YS j hj (by omega)
    .refine Q6 rfl ?_ ?_ rfl rfl<;>simp only[go_sem,Q4 (n:=(i:Int)+1) (by omega) (by omega)]<;>simp
  .have Ja:i=xs.length:=by omega
   subst Ja;have hall:∀ x∈xs,x<BB:=fun x hx=>by
    obtain⟨j,hj,rfl⟩:=waQ.1 hx;exact YS j hj hj
   simp only[go_sem];cases hx:xs with
   |nil =>
    simp only[go_sem];rfl
   |cons x l =>
    rw[hx]at hl hall;simp only[Qe]at hl;have hne:¬((l.length:Int)+1=0):=by omega
    have Y4:l.length<(x::l).length:=by simp
    (iterate 3((try simp only[go_sem,hne,show(l.length:Int)+1-1=(l.length:Int) by omega]);try simp(disch:=omega)only[Q4,Q8]))
    have e:(x::l).getLast? = some ((x::l)[l.length]):=by simp[wc3]
    have YU:IsN (x::l)↔(x::l)[l.length]≠0:=by
     unfold IsN;rw[e];simp only[ne_eq,wba];exact⟨fun h=>h.2,fun h=>⟨hall,h⟩⟩
    refine⟨by omega,?_⟩;rw[waG,YU];omega
theorem zct(xs:List Nat)(hl:xs.length<30000000000000):Q7 prog 153 [tN xs] (tN (held xs)):=by
 refine QH QB call153 func153 rfl ntmps153 results153 (by simp) (by decide) ?_;simp only[go_sem];refine Q2 (zk9 xs hl) rfl ?_;by_cases h:IsN xs
 .simp only[go_sem,h,held]
  exact Yk
 .simp only[go_sem,h,held]
  exact zcA
theorem zf0(xs:List Nat)(hl:xs.length<30000000000000):Q7 prog 157 [tN xs] (tN (trimZ xs)):=by
 refine QH QB call157 func157 rfl ntmps157 results157 (by simp) (by decide) ?_;simp only[go_sem];refine QJ (fun ys:List Nat=>stL 21 [(0,aN ys)] []) (fun ys=>ys.length<=xs.length/\trimZ ys=trimZ xs) (fun ys=>ys.length) xs ?_ ⟨Qd _,rfl⟩ ?_
 .refine Q6 rfl ?_ ?_ rfl rfl<;>simp only[go_sem]<;>simp
 .rintro ys ⟨hi,YS⟩
  simp only[go_sem];rcases List.eq_nil_or_concat ys with rfl|⟨l,x,rfl⟩
  .simp only[go_sem]
   rw[<-YS];exact Yk
  .simp only[List.concat_eq_append]at *
   have Y4:(l++[x]).length=l.length+1:=by simp
   rw[Y4]at hi;have Y1:l.length<(l++[x]).length:=by omega
   have YV:(0:Int)<(l.length:Int)+1:=by omega
   have hg:(l++[x])[l.length]=x:=by simp
   (iterate 3((try simp only[go_sem,YV,Y4,show(l.length:Int)+1-1=(l.length:Int) by omega,hg]);try simp(disch:=omega)only[Q4,Q8]))
   refine⟨by omega,QI (fun h=>?_) (fun h=>?_)⟩
   .have hx:x=0:=by omega
    subst hx
    (iterate 3((try simp only[go_sem,Y4,show(l.length:Int)+1-1=(l.length:Int) by omega,show(l++[0]).take l.length=l by simp]);try simp(disch:=omega)only[Q4,show(0:Int)<=(l.length:Int) by omega]))
    refine⟨⟨Qk _,by omega⟩,l,⟨by omega,by rw[<-YS,zis]⟩,by simp,?_⟩;refine Q6 rfl ?_ ?_ rfl rfl<;>simp only[go_sem]<;>simp
   .simp only[go_sem]
    rw[<-YS,zg1 (by simp;omega)];exact Yk
theorem zi8(n:Nat)(hn:n<18446744073709551616):Q7 prog 147 [tI .u64 n] (tN (dig n)):=by
 refine QH QB call147 func147 rfl ntmps147 results147 (by simp) (by decide) ?_;simp only[go_sem];have Sa:(dig n).length<=3:=zaz (by simp only[BB];omega);refine QJ (fun p:Nat×List Nat=>match p.2 with
   |[]=>stL 15 [(0,litI .u64 p.1),(3,.one (.t (.seq (some true) [])))] []
   |_::_=>stL 15 [(0,litI .u64 p.1),(3,.one (.vec 13 1 0 p.2.length))] [(13,cN p.2)]) (fun p=>p.1<=n/\p.2++dig p.1=dig n) (fun p=>p.1) (n,[]) ?_ ⟨Qd _,rfl⟩ ?_
 .refine Q6 rfl ?_ ?_ rfl rfl<;>simp only[go_sem]<;>simp
 .rintro⟨m,l⟩ ⟨hm,Y3⟩
  simp only at hm Y3;have Y4:l.length<=3:=by have:=congrArg List.length Y3;simp at this;omega
  by_cases h0:m=0
  .subst h0
   rw[Zg,wak]at Y3;rw[<-Y3];cases l with
   |nil=>simp only[go_sem];exact zcA
   |cons x t=>simp only[go_sem];exact zgi Z3 (by simp only[go_sem]) rfl
  .have YV:(0:Int)<(m:Int):=by omega
   have hw:m/1000000000<=m:=wb3 _ _;have KV:m%1000000000<1000000000:=waw _ (by decide);cases l with
   |nil =>
    (iterate 3((try simp only[go_sem,YV,Zx]);try simp(disch:=omega)only[QD]))
    refine zcs (Qd _) (sz:=1) (bytes:=4) (by simp only[go_sem,QW]<;>decide) Z3 [m%1000000000] (by simp only[go_sem]<;>rfl) (by simp only[go_sem]<;>rfl) rfl (by simp) (by simp) (by simp only[go_sem]) (by decide) ?_
    (iterate 3((try simp only[go_sem,QS]);try simp(disch:=omega)only[QC]))
    refine⟨(m/1000000000,[m%1000000000]),⟨by omega,?_⟩,by show m/1000000000<m;omega,?_⟩
    .rw[<-Y3];simp only[wbw];rw[zce h0];rfl
    .refine Q6 rfl ?_ ?_ rfl ?_<;>simp only[go_sem,QF]<;>simp
   |cons x t =>
    (iterate 3((try simp only[go_sem,YV,Zx]);try simp(disch:=omega)only[QD]))
    refine zar (Qd _) (sz:=1) (bytes:=4) (by simp only[go_sem,QW]<;>decide) Z3 (x::t) [m%1000000000] (by simp only[go_sem]<;>rfl) rfl (by simp only[go_sem]) (by simp only[go_sem]<;>rfl) rfl (by simp only[Qe]at *;simp;omega) (by decide) ?_
    (iterate 3((try simp only[go_sem,QS]);try simp(disch:=omega)only[QC]))
    refine⟨(m/1000000000,x::t++[m%1000000000]),⟨by omega,?_⟩,by show m/1000000000<m;omega,?_⟩
    .rw[<-Y3,zce h0];simp
    .refine Q6 rfl ?_ ?_ rfl ?_<;>simp only[go_sem,QF]<;>simp
def Za(a b:Int):Int:=if a<b then -1 else if b<a then 1 else 0
theorem zm4(a:Int):Q7 prog 170 [tI .i64 a] (tB false):=by
 refine QH QB call170 func170 rfl ntmps170 results170 (by simp) (by decide) ?_;simp only[go_sem,eq_self,not_true]
theorem zm5(a:Int):Q7 prog 171 [tI .u32 a] (tB false):=by
 refine QH QB call171 func171 rfl ntmps171 results171 (by simp) (by decide) ?_;simp only[go_sem,eq_self,not_true]
theorem zrO(a b:Int):Q7 prog 154 [tI .i64 a,tI .i64 b] (tI .i64 (Za a b)):=by
 refine QH QB call154 func154 rfl ntmps154 results154 (by simp) (by decide) ?_;simp only[go_sem];refine Q2 (zm4 a) rfl ?_;simp only[go_sem];refine Q2 (zm4 b) rfl ?_;simp only[go_sem];refine QI (fun h=>?_) (fun h=>?_)
 .simp only[go_sem,Za,h]
 .simp only[go_sem]
  refine QI (fun h'=>?_) (fun h'=>?_)
  .simp only[go_sem,Za,h,h']
  .simp only[go_sem,Za,h,h']
theorem zrP(a b:Int):Q7 prog 155 [tI .u32 a,tI .u32 b] (tI .i64 (Za a b)):=by
 refine QH QB call155 func155 rfl ntmps155 results155 (by simp) (by decide) ?_;simp only[go_sem];refine Q2 (zm5 a) rfl ?_;simp only[go_sem];refine Q2 (zm5 b) rfl ?_;simp only[go_sem];refine QI (fun h=>?_) (fun h=>?_)
 .simp only[go_sem,Za,h]
 .simp only[go_sem]
  refine QI (fun h'=>?_) (fun h'=>?_)
  .simp only[go_sem,Za,h,h']
  .simp only[go_sem,Za,h,h']
theorem ze0{xs:List Nat}{i:Nat}(hi:i<xs.length):val xs=val (xs.take i)+BB^i*(xs[i]+BB*val (xs.drop (i+1))):=by
 have h1:xs=xs.take i++xs.drop i:=(wb6 i xs).symm;have h2:xs.drop i=xs[i]::xs.drop (i+1):=waD hi
 conv=>lhs;rw[h1,za2,h2]
 rw[waB,wbx (by omega)];rfl
theorem zeV{xs ys:List Nat}(hx:IsN xs)(hy:IsN ys)(h:xs.length<ys.length):val xs<val ys:=by
 have h1:=Yu hx.1;have h2:=zqF hy (by intro e;subst e;simp at h);have h3:BB^xs.length<=BB^(ys.length-1):=waW (by decide) (by omega);omega
theorem ziP{xs ys:List Nat}{i:Nat}(hx:∀ x∈xs,x<BB)(hi:i<xs.length)(Y6:i<ys.length)(hd:xs.drop (i+1)=ys.drop (i+1))(h:xs[i]<ys[i]):val xs<val ys:=by
 rw[ze0 hi,ze0 Y6,hd];have h1:val (xs.take i)<BB^i:=by
  have:=Yu (xs:=xs.take i) fun x Dp=>hx x (waU Dp)
  rwa[waB,wbx (by omega)]at this
 have h2:BB^i*(xs[i]+BB*val (ys.drop (i+1))+1)<=BB^i*(ys[i]+BB*val (ys.drop (i+1))):=waq _ (by omega);rw[wae _ _ 1,wai]at h2;omega
theorem zf5(a b:List Nat)(ha:a.length<30000000000000)(hb:b.length<30000000000000):Q7 prog 121 [tN a,tN b] (tI .i64 (Za (vN a) (vN b))):=by
 refine QH QB call121 func121 rfl ntmps121 results121 (by simp) (by decide) ?_;simp only[go_sem];refine Q2 (zct a ha) rfl ?_;simp only[go_sem];refine Q2 (zct b hb) rfl ?_;have E8:=zam a;have Jb:=zam b;have hA:=zaf a;have hB:=zaf b;unfold vN;generalize held a=x at *
 generalize held b=y at *
 simp only[go_sem];refine QI (fun h=>?_) (fun h=>?_)
 .simp only[go_sem]
  refine Q2 (zrO _ _) rfl ?_;simp only[go_sem];have:x.length≠y.length:=by omega
  rcases wau x.length y.length with h1|h1
  .have:=zeV hA hB h1
   unfold Za;rw[Qc (by omega),Qc (by omega)]
  .have:=zeV hB hA (by omega)
   unfold Za;rw[Qb (by omega),Qc (by omega),Qb (by omega),Qc (by omega)]
 .have Y4:x.length=y.length:=by omega
  simp only[go_sem];refine QJ (fun k:Nat=>stL 45 [(0,aN x),(1,aN y),(5,litI .i64 ((k:Int)-1))] []) (fun k=>k<=x.length/\x.drop k=y.drop k) (fun k=>k) x.length ?_ ⟨Qd _,by rw[wbk,Y4,wbk]⟩ ?_
  .refine Q6 rfl ?_ ?_ rfl rfl<;>simp only[go_sem,Q4 (n:=(x.length:Int)-1) (by omega) (by omega)]<;>simp
  .rintro k ⟨hk,hd⟩
   simp only[go_sem];refine QI (fun Y1=>?_) (fun YI=>?_)
   .obtain⟨i,rfl⟩:∃ i,k=i+1:=⟨k-1,by omega⟩
    have hx:i<x.length:=by omega
    have hy:i<y.length:=by omega
    have e:((i:Int)+1-1)=i:=by omega
    simp only[go_sem,e];refine Q3 0 rfl ?_
    (iterate 3((try simp only[go_sem]);try simp(disch:=omega)only[Q8]))
    refine⟨by omega,by omega,QI (fun h=>?_) (fun h=>?_)⟩
    .simp only[go_sem]
     refine Q3 0 rfl ?_
     (iterate 3((try simp only[go_sem]);try simp(disch:=omega)only[Q8]))
     refine⟨by omega,by omega,?_⟩;refine Q2 (zrP _ _) rfl ?_;simp only[go_sem];have hne:x[i]≠y[i]:=by omega
     rcases wau x[i] y[i]with h1|h1
     .have:=ziP hA.1 hx hy hd h1
      unfold Za;rw[Qc (by omega),Qc (by omega)]
     .have:=ziP hB.1 hy hx hd.symm (by omega)
      unfold Za;rw[Qb (by omega),Qc (by omega),Qb (by omega),Qc (by omega)]
    .simp only[go_sem]
     refine⟨i,⟨by omega,?_⟩,waO i,?_⟩
     .rw[waD hx,waD hy,hd,show x[i]=y[i] by omega]
     .refine Q6 rfl ?_ ?_ rfl rfl<;>simp only[go_sem,Q4 (n:=(i:Int)-1) (by omega) (by omega)]<;>simp
   .have VV:k=0:=by omega
    subst VV;simp only[go_sem];have:x=y:=by simpa using hd
    subst this;unfold Za;rw[Qb (by omega),Qb (by omega)]
def msz(ll:List (List Nat)):Nat:=ll.foldl (fun m a=>max m a.length) 0
theorem zus{l:List (List Nat)}{a:List Nat}:msz (l++[a])=max (msz l) a.length:=by simp[msz]
theorem Zl{α:Type}{l:List α}{i:Nat}(h:i<l.length):l.take (i+1)=l.take i++[l[i]]:=by
 rw[List.take_add_one,wab h];rfl
theorem zrW{ll:List (List Nat)}:∀ {m:Nat},m<=ll.foldl (fun m a=>max m a.length) m/\∀ a∈ll,a.length<=ll.foldl (fun m a=>max m a.length) m:=by
 induction ll with
 |nil=>intro m;exact⟨Qd _,by simp⟩
 |cons b l ih =>
  intro m;simp only[wc1];have h:=@ih (max m b.length);refine⟨by have:=h.1;omega,fun a ha=>?_⟩;rcases wad.1 ha with rfl|ha
  .have:=h.1;omega
  .exact h.2 a ha
theorem zxN{ll:List (List Nat)}{a:List Nat}(h:a∈ll):a.length<=msz ll:=zrW.2 a h
theorem zxO{ll:List (List Nat)}{N:Nat}(h:∀ a∈ll,a.length<=N):msz ll<=N:=by
 unfold msz
 suffices ∀ (m:Nat),m<=N->ll.foldl (fun m a=>max m a.length) m<=N from this 0 (Qk _)
 induction ll with
 |nil=>intro m hm;exact hm
 |cons b l ih =>
  intro m hm;exact ih (fun a ha=>h a (wal _ ha)) _ (by have:=h b (wam ..);show max m b.length<=N;omega)
def col(ll:List (List Nat))(k:Nat):Nat:=(ll.map fun a=>a.getD k 0).sum
def low(ll:List (List Nat))(k:Nat):Nat:=(ll.map fun a=>val (a.take k)).sum
theorem zem{a:List Nat}{k:Nat}:val (a.take (k+1))=val (a.take k)+BB^k*a.getD k 0:=by
 by_cases h:k<a.length
 .rw[Zl h,za2,waB,wbx (by omega)]
  simp[val,h]
 .rw[waM (by omega),waM (by omega)]
  simp[show a.length<=k by omega]
theorem zog{ll:List (List Nat)}:low ll 0=0:=by
 unfold low
 induction ll with
 |nil=>rfl
 |cons a l ih=>rw[wat,wbA,ih];rfl
theorem zut{ll:List (List Nat)}{k:Nat}:low ll (k+1)=low ll k+BB^k*col ll k:=by
 unfold low col
 induction ll with
 |nil=>rfl
 |cons a l ih=>rw[wat,wbA,ih,zem,wat,wbA,wat,wbA,wae];omega
theorem zoh{l:List (List Nat)}{a:List Nat}{k:Nat}:col (l++[a]) k=col l k+a.getD k 0:=by simp[col]
theorem zqn{ll:List (List Nat)}{k:Nat}(h:∀ a∈ll,∀ x∈a,x<BB):col ll k<=ll.length*999999999:=by
 unfold col
 induction ll with
 |nil=>simp
 |cons a l ih =>
  have:=ih fun b hb=>h b (wal _ hb)
  have h1:a.getD k 0<=999999999:=by
   by_cases hk:k<a.length
   .have:=h a (wam ..) a[k] (Qf hk)
    simp[hk];simp only[BB]at this;omega
   .simp[show a.length<=k by omega]
  simp only[wat,wbA,Qe];omega
theorem zxP{ll:List (List Nat)}{n:Nat}(h:∀ a∈ll,∀ x∈a,x<BB)(hn:∀ a∈ll,a.length<=n)(hl:ll.length<BB):(ll.map val).sum<BB^(n+1):=by
 have h1:(ll.map val).sum<=ll.length*BB^n:=by
  clear hl
  induction ll with
  |nil=>simp
  |cons a l ih =>
   have:=ih (fun b hb=>h b (wal _ hb)) (fun b hb=>hn b (wal _ hb));have h1:=Yu (h a (wam ..));have h2:BB^a.length<=BB^n:=waW (by decide) (hn a (wam ..));simp only[wat,wbA,Qe,war];omega
 have h2:0<BB^n:=waR (by decide);have h3:ll.length*BB^n<BB*BB^n:=wdv hl h2;rw[waJ,Qu (BB^n)];omega
def zea(ll:List (List Nat))(k:Nat)(ds:List Nat)(c:Nat):Prop:=ds.length=k/\(∀ x∈ds,x<BB)/\c<=ll.length/\val ds+BB^k*c=low ll k
theorem zea.next{ll:List (List Nat)}{k c:Nat}{ds:List Nat}(hs:zea ll k ds c)(h:∀ a∈ll,∀ x∈a,x<BB):zea ll (k+1) (ds++[(c+col ll k)%BB]) ((c+col ll k)/BB):=by
 obtain⟨h1,h2,h3,h4⟩:=hs;have hc:=zqn (k:=k) h;have hB:BB=1000000000:=rfl;refine⟨by simp[h1],?_,?_,?_⟩
 .intro x hx
  rcases wao.1 hx with hx|hx
  .exact h2 x hx
  .simp at hx;subst hx;exact waw _ (by decide)
 .rw[hB];omega
 .rw[za2,h1,zut,<-h4]
  have:=wco (c+col ll k) BB;simp only[val,waV,wap];rw[waJ,waf,wbn,<-wae,this,wae];omega
theorem zea.done{ll:List (List Nat)}{k c:Nat}{ds:List Nat}(hs:zea ll (k+1) ds c)(h:∀ a∈ll,∀ x∈a,x<BB)(hn:∀ a∈ll,a.length<=k)(hl:ll.length<BB):trimZ ds=dig (ll.map val).sum:=by
 obtain⟨h1,h2,h3,h4⟩:=hs;rw[zcL h2];have e:low ll (k+1)=(ll.map val).sum:=by
  unfold low;congr 1;apply way;intro a ha;rw[waM (by have:=hn a ha;omega)]
 have:=zxP h hn hl;rw[e]at h4;have:c=0:=by
  rcases wce c with h|h
  .exact h
  .have:BB^(k+1)*1<=BB^(k+1)*c:=waq _ h
   omega
 subst this;rw[<-h4,waV,wap]
def lst(a:List Nat):List T:=[eN a]
attribute [go_sem] lst
abbrev eLL(ll:List (List Nat)):T:=eL lst ll
abbrev aLL(ll:List (List Nat)):AV:=.one (.t (eLL ll))
theorem zdP{n:Nat}:Zh n [C.t (.lit (.int .u32 0))]=cN (List.replicate n 0):=zmW (f:=Zr) (x:=0)
theorem zap{xs:List Nat}{i:Nat}(hi:i<xs.length){y:Nat}:(cN xs).take i++C.t (.lit (.int .u32 (y:Int)))::(cN xs).drop (i+1)=cN (xs.set i y):=by
 rw[<-zxK hi];simp[Yq]
theorem zg7{ds:List Nat}{k S y:Nat}(h:ds.length=k)(hk:k<S):(ds++List.replicate (S-k) 0).set k y=ds++[y]++List.replicate (S-(k+1)) 0:=by
 rw[wdT,Qb (by omega),h,wbu,show S-k=(S-(k+1))+1 by omega,wbs,List.set_cons_zero,waN];rfl
theorem ztd(ll:List (List Nat))(hl:ll.length<1000000)(Y4:∀ a∈ll,a.length<10000000000000)(hb:∀ a∈ll,∀ x∈a,x<BB):Q7 prog 156 [.one (eLL ll)] (tN (dig (ll.map val).sum)):=by
 refine QH QB call156 func156 rfl ntmps156 results156 (by simp) (by decide) ?_;simp only[go_sem];have GU:∀ i,msz (ll.take i)<10000000000000:=fun i=>by
  have:=zxO (ll:=ll.take i) (N:=9999999999999) fun a ha=>by have:=Y4 a (waU ha);omega
  omega
 refine QJ (fun i:Nat=>stL 59 [(0,aLL ll),(3,litI .i64 (msz (ll.take i))),(11,aLL ll),(12,litI .i64 ll.length),(13,litI .i64 i)] []) (fun i=>i<=ll.length) (fun i=>ll.length-i) 0 ?_ (Qk _) ?_
 .refine Q6 rfl ?_ ?_ rfl rfl<;>simp only[go_sem]<;>simp[msz]
 .intro i hi
  simp only[go_sem];refine QI (fun Y1=>?_) (fun YI=>?_)
  .have Yz:i<ll.length:=by omega
   have hm:=GU i;have JR:=Y4 _ (Qf Yz);simp only[go_sem,Q8 Yz,Y1];refine⟨by omega,?_⟩;refine zdQ rfl (by simp only[go_sem]<;>rfl) (by simp only[go_sem]<;>rfl) (Qd _) ?_;simp only[go_sem];refine⟨i+1,Yz,(by show ll.length-(i+1)<ll.length-i;omega),?_⟩;have e:(if(ll[i].length:Int)>(msz (ll.take i):Int)then(ll[i].length:Int)else(msz (ll.take i):Int))=((max (msz (ll.take i)) ll[i].length:Nat):Int):=by split<;>omega
   refine Q6 rfl ?_ ?_ rfl rfl<;>simp only[go_sem,Q4 (n:=(i:Int)+1) (by omega) (by omega),Zl Yz,zus,e]<;>simp
  .have Ja:i=ll.length:=by omega
   subst Ja;rw[waa];have hm:=GU ll.length;rw[waa]at hm
   (iterate 3((try simp only[go_sem]);try simp(disch:=omega)only[Q4]))
   refine⟨by omega,?_⟩;generalize hS:msz ll+1=S at *
   have GN:(msz ll:Int)+1=(S:Int):=by omega
   have Ey:IntKind.wrap .i64 (S:Int)=S:=Q4 (by omega) (by omega);refine QJ (fun p:Nat×List Nat×Nat=>stL 59 [(0,aLL ll),(6,.one (.vec 24 1 0 S)),(7,litI .u64 p.2.2),(26,litI .i64 S),(27,litI .i64 p.1)] [(24,cN (p.2.1++List.replicate (S-p.1) 0))])
    (fun p=>p.1<=S/\zea ll p.1 p.2.1 p.2.2) (fun p=>S-p.1) (0,[],0) ?_ ⟨Qk _,rfl,by simp,Qk _,by rw[zog];rfl⟩ ?_
   .refine Q6 rfl ?_ ?_ rfl ?_<;>simp only[go_sem,GN,QF,zdP]<;>simp
   .rintro⟨k,ds,c⟩ ⟨hk,hs⟩
    simp only at hk hs ⊢;simp only[go_sem];refine QI (fun Y1=>?_) (fun YI=>?_)
    .have Yz:k<S:=by omega
     have hc:=hs.2.2.1;simp only[go_sem];refine QJ (fun j:Nat=>stL 59 [(0,aLL ll),(6,.one (.vec 24 1 0 S)),(7,litI .u64 ((c+col (ll.take j) k:Nat):Int)),(8,litI .i64 k),(26,litI .i64 S),(27,litI .i64 k),(30,aLL ll),(31,litI .i64 ll.length),(32,litI .i64 j)] [(24,cN (ds++List.replicate (S-k) 0))])
      (fun j=>j<=ll.length) (fun j=>ll.length-j) 0 ?_ (Qk _) ?_
     .refine Q6 rfl ?_ ?_ rfl ?_<;>simp only[go_sem,QF]<;>simp[col]
     .intro j hj
      simp only[go_sem];have Xq:=zqn (ll:=ll.take j) (k:=k) fun a ha=>hb a (waU ha)
      rw[waB,wbx hj]at Xq;refine QI (fun KA=>?_) (fun KA=>?_)
      .have Xy:j<ll.length:=by omega
       simp only[go_sem,Q8 Xy,KA];refine⟨by omega,QI (fun E7=>?_) (fun E7=>?_)⟩
       .have JS:k<ll[j].length:=by omega
        have hx:=hb _ (Qf Xy) _ (Qf JS);simp only[BB]at hx
        (iterate 3((try simp only[go_sem,Q8 JS,E7]);try simp(disch:=omega)only[Q4,QC]))
        refine⟨by omega,j+1,Xy,(by show ll.length-(j+1)<ll.length-j;omega),?_⟩;have e:((c+col (ll.take (j+1)) k:Nat):Int)=((c+col (ll.take j) k:Nat):Int)+(ll[j][k]:Int):=by
         rw[Zl Xy,zoh];simp[JS];omega
        refine Q6 rfl ?_ ?_ rfl ?_<;>(iterate 3((try simp only[go_sem,QF,e]);try simp(disch:=omega)only[Q4,QC,QD,Q8,QF,e]))<;>simp
       .simp only[go_sem]
        refine⟨j+1,Xy,(by show ll.length-(j+1)<ll.length-j;omega),?_⟩;have e:(c+col (ll.take (j+1)) k)=(c+col (ll.take j) k):=by
         rw[Zl Xy,zoh];simp[show ll[j].length<=k by omega]
        refine Q6 rfl ?_ ?_ rfl ?_<;>(iterate 3((try simp only[go_sem,QF,e]);try simp(disch:=omega)only[Q4]))<;>simp
      .obtain rfl:j=ll.length:=by omega
       rw[waa]at Xq ⊢;have Y0:=hs.next hb;have KV:(c+col ll k)%1000000000<1000000000:=waw _ (by decide)
       (iterate 3((try simp only[go_sem,Zx,QS]);try simp(disch:=omega)only[Q4,QC,QD]))
       have Oo:(ds++List.replicate (S-k) 0).length=S:=by simp[hs.1];omega
       refine⟨⟨by omega,by omega⟩,by rw[zaY];omega,?_⟩;refine⟨(k+1,ds++[(c+col ll k)%BB],(c+col ll k)/BB),⟨Yz,Y0⟩,(by show S-(k+1)<S-k;omega),?_⟩;refine Q6 rfl ?_ ?_ rfl ?_<;>simp only[go_sem,QF,zap (show k<(ds++List.replicate (S-k) 0).length by omega),zg7 hs.1 Yz]<;>simp[BB]
    .obtain rfl:k=S:=by omega
     have JT:trimZ ds=dig (ll.map val).sum:=by
      rw[<-hS]at hs;exact hs.done hb (fun a ha=>zxN ha) (by simp only[BB];omega)
     simp only[go_sem];rw[wbu,wbS,wak];refine zcd 24 1 k rfl (zf0 ds (by rw[hs.1];omega)) (by simp only[go_sem]<;>rfl) (by rw[<-hs.1];exact Yp Z3) ?_ ?_
     .simp only[go_sem]<;>rfl
     .simp only[go_sem]
      rw[JT];exact Yk
theorem znw(a b:List Nat)(ha:a.length<10000000000000)(hb:b.length<10000000000000):Q7 prog 122 [tN a,tN b] (tN (dig (vN a+vN b))):=by
 refine QH QB call122 func122 rfl ntmps122 results122 (by simp) (by decide) ?_;simp only[go_sem];refine Q2 (zct a (by omega)) rfl ?_;simp only[go_sem];refine Q2 (zct b (by omega)) rfl ?_;simp only[go_sem];have E8:=zam a;have Jb:=zam b;refine zfe (tvs':=[.one (.seq (some false) [[eN (held a)],[eN (held b)]])]) (ztd [held a,held b] (by simp) (fun x hx=>by rcases wad.1 hx with rfl|hx;omega;obtain rfl:=Qr.1 hx;omega) (fun x hx=>by rcases wad.1 hx with rfl|hx;exact(zaf a).1;obtain rfl:=Qr.1 hx;exact(zaf b).1)) rfl (.cons fzW .nil) ?_;simp only[go_sem];rw[show[val (held a),val (held b)].sum=vN a+vN b by simp[vN]];exact Yk
def zdw(x y:List Nat)(k:Nat)(ds:List Nat)(c:Nat):Prop:=ds.length=k/\(∀ z∈ds,z<BB)/\c<=1/\val ds+val (y.take k)=val (x.take k)+BB^k*c
theorem zdw.step{x y ds:List Nat}{k c d c':Nat}(hs:zdw x y k ds c)(hd:d<BB)(hc:c'<=1)(h:d+y.getD k 0+c=x.getD k 0+BB*c'):zdw x y (k+1) (ds++[d]) c':=by
 obtain⟨h1,h2,h3,h4⟩:=hs;refine⟨by simp[h1],?_,hc,?_⟩
 .intro z hz
  rcases wao.1 hz with hz|hz
  .exact h2 z hz
  .simp at hz;subst hz;exact hd
 .rw[za2,h1,zem,zem]
  simp only[val,waV,wap];have:=congrArg (BB^k*·) h;simp only[wae]at this;rw[waJ,waf];omega
theorem zdw.next{x y ds:List Nat}{k c d c':Nat}(hs:zdw x y k ds c)(hx:∀ z∈x,z<BB)(hy:∀ z∈y,z<BB)(hk:k<x.length)(h:(x[k]<c+y.getD k 0/\d=x[k]+BB-(c+y.getD k 0)/\c'=1)\/(c+y.getD k 0<=x[k]/\d=x[k]-(c+y.getD k 0)/\c'=0)):zdw x y (k+1) (ds++[d]) c':=by
 have h1:=hx _ (Qf hk);have h2:y.getD k 0<BB:=by
  by_cases h:k<y.length
  .simp[h];exact hy _ (Qf h)
  .simp[show y.length<=k by omega,BB]
 have h3:=hs.2.2.1;have e:x.getD k 0=x[k]:=by simp[hk]
 refine hs.step ?_ ?_ ?_<;>rw[show BB=1000000000 from rfl]at *<;>rcases h with⟨h,rfl,rfl⟩|⟨h,rfl,rfl⟩<;>omega
theorem zdw.done{x y ds:List Nat}{c:Nat}(hs:zdw x y x.length ds c)(hy:y.length<=x.length)(h:val y<val x):trimZ ds=dig (val x-val y):=by
 obtain⟨h1,h2,h3,h4⟩:=hs;rw[waM hy,waa]at h4;have h5:=Yu h2;rw[h1]at h5;have:c=0:=by
  rcases wce c with h|h
  .exact h
  .obtain rfl:c=1:=by omega
   omega
 subst this;rw[zcL h2];congr 1;omega
theorem zkv(a b:List Nat)(ha:a.length<10000000000000)(hb:b.length<10000000000000):Q7 prog 125 [tN a,tN b] (tN (dig (vN a-vN b))):=by
 refine QH QB call125 func125 rfl ntmps125 results125 (by simp) (by decide) ?_;simp only[go_sem];refine Q2 (zct a (by omega)) rfl ?_;simp only[go_sem];refine Q2 (zct b (by omega)) rfl ?_;simp only[go_sem];have UG:=zam a;have VS:=zam b;have hX:=zaf a;have hY:=zaf b;refine Q2 (zf5 (held a) (held b) (by omega) (by omega)) rfl ?_;rw[show vN (held a)=vN a by rw[<-zgC,Zk],show vN (held b)=vN b by rw[<-zgC,Zk]];simp only[go_sem];refine QI (fun Xb=>?_) (fun Wo=>?_)
 .simp only[go_sem]
  have:vN a<=vN b:=by
   unfold Za at Xb;split at Xb
   .omega
   .split at Xb<;>omega
  rw[show vN a-vN b=0 by omega,Zg];exact zcA
 .have Y1:vN b<vN a:=by
   unfold Za at Wo;split at Wo
   .omega
   .split at Wo<;>omega
  unfold vN at Y1 ⊢;generalize held a=x at *
  generalize held b=y at *
  have Es:y.length<=x.length:=by
   rcases wau x.length y.length with h|h
   .have:=zeV hX hY h;omega
   .exact h
  have hx:=hX.1;have hy:=hY.1
  (iterate 3((try simp only[go_sem]);try simp(disch:=omega)only[Q4,QC,QD,Q8]))
  refine⟨by omega,?_⟩;refine QJ (fun p:Nat×List Nat×Nat=>stL 53 [(0,aN x),(1,aN y),(5,.one (.vec 20 1 0 x.length)),(6,litI .u32 p.2.2),(21,aN x),(22,litI .i64 x.length),(23,litI .i64 p.1)] [(20,cN (p.2.1++List.replicate (x.length-p.1) 0))])
   (fun p=>p.1<=x.length/\zdw x y p.1 p.2.1 p.2.2) (fun p=>x.length-p.1) (0,[],0) ?_ ⟨Qk _,rfl,by simp,Qk _,by simp[val]⟩ ?_
  .refine Q6 rfl ?_ ?_ rfl ?_<;>simp only[go_sem,QF,zdP]<;>simp
  .rintro⟨k,ds,c⟩ ⟨hk,hs⟩
   simp only at hk hs ⊢;simp only[go_sem];refine QI (fun Y1=>?_) (fun YI=>?_)
   .have Yz:k<x.length:=by omega
    have Uz:=Yz;have hc:=hs.2.2.1;have Oo:(ds++List.replicate (x.length-k) 0).length=x.length:=by simp[hs.1];omega
    have h1:=hx _ (Qf Yz);simp only[BB]at h1;simp only[go_sem,Q8 Yz,Y1];refine⟨by omega,QI (fun VT=>?_) (fun VT=>?_)⟩
    .have JG:k<y.length:=by omega
     have h2:=hy _ (Qf JG);simp only[BB]at h2;have e:y.getD k 0=y[k]:=by simp[JG]
     (iterate 3((try simp only[go_sem,Q8 JG,VT]);try simp(disch:=omega)only[QD]))
     refine⟨by omega,QI (fun hb=>?_) (fun hb=>?_)⟩
     ·(iterate 3((try simp only[go_sem]);try simp(disch:=omega)only[Q4,QD,show((x[k]:Int)+1000000000-((c:Int)+(y[k]:Int)))=((x[k]+1000000000-(c+y[k]):Nat):Int) by omega]))
      refine⟨⟨by omega,by omega⟩,by rw[zaY];omega,?_⟩;refine⟨(k+1,ds++[x[k]+1000000000-(c+y[k])],1),⟨Yz,hs.next hx hy Uz (.inl ⟨by omega,by simp only[BB];omega,rfl⟩)⟩,(by show x.length-(k+1)<x.length-k;omega),?_⟩;refine Q6 rfl ?_ ?_ rfl ?_<;>simp only[go_sem,QF,zap (show k<(ds++List.replicate (x.length-k) 0).length by omega),zg7 hs.1 Yz]<;>simp
     ·(iterate 3((try simp only[go_sem,show((x[k]:Int)-((c:Int)+(y[k]:Int)))=((x[k]-(c+y[k]):Nat):Int) by omega]);try simp(disch:=omega)only[Q4,QD]))
      refine⟨⟨by omega,by omega⟩,by rw[zaY];omega,?_⟩;refine⟨(k+1,ds++[x[k]-(c+y[k])],0),⟨Yz,hs.next hx hy Uz (.inr ⟨by omega,by omega,rfl⟩)⟩,(by show x.length-(k+1)<x.length-k;omega),?_⟩;refine Q6 rfl ?_ ?_ rfl ?_<;>simp only[go_sem,QF,zap (show k<(ds++List.replicate (x.length-k) 0).length by omega),zg7 hs.1 Yz]<;>simp
    .have e:y.getD k 0=0:=by simp[show y.length<=k by omega]
     (iterate 3((try simp only[go_sem]);try simp(disch:=omega)only[Q4,QC,QD,Q8]))
     refine QI (fun hb=>?_) (fun hb=>?_)
     ·(iterate 3((try simp only[go_sem]);try simp(disch:=omega)only[Q4,QD,show((x[k]:Int)+1000000000-(c:Int))=((x[k]+1000000000-c:Nat):Int) by omega]))
      refine⟨⟨by omega,by omega⟩,by rw[zaY];omega,?_⟩;refine⟨(k+1,ds++[x[k]+1000000000-c],1),⟨Yz,hs.next hx hy Uz (.inl ⟨by omega,by simp only[BB];omega,rfl⟩)⟩,(by show x.length-(k+1)<x.length-k;omega),?_⟩;refine Q6 rfl ?_ ?_ rfl ?_<;>simp only[go_sem,QF,zap (show k<(ds++List.replicate (x.length-k) 0).length by omega),zg7 hs.1 Yz]<;>simp
     ·(iterate 3((try simp only[go_sem,show((x[k]:Int)-(c:Int))=((x[k]-c:Nat):Int) by omega]);try simp(disch:=omega)only[Q4,QD]))
      refine⟨⟨by omega,by omega⟩,by rw[zaY];omega,?_⟩;refine⟨(k+1,ds++[x[k]-c],0),⟨Yz,hs.next hx hy Uz (.inr ⟨by omega,by omega,rfl⟩)⟩,(by show x.length-(k+1)<x.length-k;omega),?_⟩;refine Q6 rfl ?_ ?_ rfl ?_<;>simp only[go_sem,QF,zap (show k<(ds++List.replicate (x.length-k) 0).length by omega),zg7 hs.1 Yz]<;>simp
   .obtain rfl:k=x.length:=by omega
    have Vf:=hs.done Es Y1;have Vd:=hs.1;simp only[go_sem];rw[wbu,wbS,wak];refine zcd 20 1 x.length rfl (zf0 ds (by omega)) (by simp only[go_sem]<;>rfl) (by rw[<-Vd];exact Yp Z3) ?_ ?_
    .simp only[go_sem]<;>rfl
    .simp only[go_sem]
     rw[Vf];exact Yk
theorem zpm{xs:List Nat}{i v:Nat}(hi:i<xs.length):val (xs.set i v)+BB^i*xs[i]=val xs+BB^i*v:=by
 have h1:=ze0 hi;have h2:=ze0 (xs:=xs.set i v) (i:=i) (by simpa using hi);rw[List.getElem_set_self,List.take_set_of_le (Qd _),List.drop_set_of_lt (by omega)]at h2;rw[h1,h2,wae,wae];omega
theorem zqj{xs:List Nat}{i v:Nat}(h:∀ x∈xs,x<BB)(hv:v<BB):∀ x∈xs.set i v,x<BB:=fun x hx=>by
 rcases List.mem_or_eq_of_mem_set hx with h1|rfl
 .exact h x h1
 .exact hv
theorem zof{xs:List Nat}{i v k:Nat}(hi:i<xs.length):(xs.set i v).getD k 0=if k=i then v else xs.getD k 0:=by
 by_cases h:k=i
 .subst h;simp[hi]
 .rw[Qb h];simp[Ne.symm h]
def zh7(x y:List Nat)(i:Nat)(w:List Nat):Prop:=w.length=x.length+y.length/\(∀ z∈w,z<BB)/\(∀ k,i+y.length<=k->w.getD k 0=0)/\val w=val (x.take i)*val y
def zeP(x y:List Nat)(i n j:Nat)(w:List Nat)(c:Nat):Prop:=w.length=x.length+y.length/\(∀ z∈w,z<BB)/\c<BB/\(∀ k,i+y.length<=k->w.getD k 0=0)/\val w+BB^(i+j)*c=val (x.take i)*val y+BB^i*(n*val (y.take j))
theorem zh7.enter{x y w:List Nat}{i n:Nat}(h:zh7 x y i w):zeP x y i n 0 w 0:=⟨h.1,h.2.1,by decide,h.2.2.1,by rw[h.2.2.2];simp[val]⟩
theorem zeP.next{x y w:List Nat}{i n j c t:Nat}(h:zeP x y i n j w c)(hj:j<y.length)(hw:i+j<w.length)(hn:n<BB)(hy:y[j]<BB)(ht:t=c+(w[i+j]+n*y[j])):zeP x y i n (j+1) (w.set (i+j) (t%BB)) (t/BB):=by
 obtain⟨h1,h2,h3,h4,h5⟩:=h;have hB:BB=1000000000:=rfl;refine⟨by simpa using h1,zqj h2 (waw _ (by decide)),?_,fun k hk=>?_,?_⟩
 .have h6:=h2 _ (Qf hw)
  have h7:n*y[j]<=999999999*999999999:=wax (by omega) (by omega);simp only[BB]at h3 h6 ⊢;omega
 .rw[zof hw,Qb (by omega)];exact h4 k hk
 .have e:=zpm (v:=t%BB) hw
  rw[Zl hj,za2,waB,wbx (by omega),<-wbn,waJ,waf];have e2:=wco t BB;have e3:=congrArg (BB^(i+j)*·) e2;simp only[ht,wae]at e3;rw[<-ht]at e3;simp only[val,waV,wap,wae];have e4:BB^i*(n*(BB^j*y[j]))=BB^(i+j)*(n*y[j]):=by
   rw[wbl,waf];congr 1;rw[<-waf,<-waf,Qu n]
  rw[e4];omega
theorem zeP.done{x y w:List Nat}{i c:Nat}(hi:i<x.length)(h:zeP x y i x[i] y.length w c):zh7 x y (i+1) (w.set (i+y.length) c):=by
 obtain⟨h1,h2,h3,h4,h5⟩:=h;have hw:i+y.length<w.length:=by omega
 refine⟨by simpa using h1,zqj h2 h3,fun k hk=>?_,?_⟩
 .rw[zof hw,Qb (by omega)];exact h4 k (by omega)
 .have e:=zpm (v:=c) hw
  have e0:w[i+y.length]=0:=by have:=h4 (i+y.length) (Qd _);simpa[hw]using this
  rw[e0,waV,wap,h5,waa]at e;rw[e,Zl hi,za2,waB,wbx (by omega)];simp only[val,waV,wap,war,waf]
theorem ziw(a b:List Nat)(ha:a.length<10000000000000)(hb:b.length<10000000000000):Q7 prog 149 [tN a,tN b] (tN (dig (vN a*vN b))):=by
 refine QH QB call149 func149 rfl ntmps149 results149 (by simp) (by decide) ?_;simp only[go_sem];refine Q2 (zct a (by omega)) rfl ?_;simp only[go_sem];refine Q2 (zct b (by omega)) rfl ?_;have UG:=zam a;have VS:=zam b;have hX:=zaf a;have hY:=zaf b;unfold vN;generalize held a=x at *
 generalize held b=y at *
 have hx:=hX.1;have hy:=hY.1;by_cases WR:x=[]
 .subst WR
  simp only[go_sem];rw[show val []*val y=0 from wdm _,Zg];exact zcA
 have O0:0<x.length:=wbc.2 WR;have KU:¬((x.length:Int)=0):=by omega
 by_cases XH:y=[]
 .subst XH
  simp only[go_sem,KU];rw[show val x*val []=0 from waV _,Zg];exact zcA
 have Fq:0<y.length:=wbc.2 XH;have UI:¬((y.length:Int)=0):=by omega
 (iterate 3((try simp only[go_sem,KU,UI]);try simp(disch:=omega)only[Q4]))
 refine⟨by omega,?_⟩;have GN:(x.length:Int)+(y.length:Int)=((x.length+y.length:Nat):Int):=by omega
 have Ey:IntKind.wrap .i64 ((x.length+y.length:Nat):Int)=((x.length+y.length:Nat):Int):=Q4 (by omega) (by omega);refine QJ (fun p:Nat×List Nat=>stL 80 [(0,aN x),(1,aN y),(5,.one (.vec 28 1 0 (x.length+y.length))),(29,aN x),(30,litI .i64 x.length),(31,litI .i64 p.1)] [(28,cN p.2)])
  (fun p=>p.1<=x.length/\zh7 x y p.1 p.2) (fun p=>x.length-p.1) (0,List.replicate (x.length+y.length) 0) ?_ ⟨Qk _,by simp,(fun z hz=>by rw[wd0 hz];decide),(fun k _=>by simp[weq];split<;>rfl),by rw[zkd];simp[val]⟩ ?_
 .refine Q6 rfl ?_ ?_ rfl ?_<;>simp only[go_sem,GN,QF,zdP]<;>simp
 .rintro⟨i,w⟩ ⟨hi,hs⟩
  simp only at hi hs ⊢;simp only[go_sem];refine QI (fun Y1=>?_) (fun YI=>?_)
  .have Yz:i<x.length:=by omega
   have Vm:=hx _ (Qf Yz);have Nl:=Vm;simp only[BB]at Nl;simp only[go_sem,Q8 Yz,Y1];refine⟨by omega,?_⟩;refine QJ (fun p:Nat×List Nat×Nat=>stL 80 [(0,aN x),(1,aN y),(5,.one (.vec 28 1 0 (x.length+y.length))),(6,litI .i64 i),(7,litI .u32 x[i]),(8,litI .u64 p.2.2),(29,aN x),(30,litI .i64 x.length),(31,litI .i64 i),(36,aN y),(37,litI .i64 y.length),(38,litI .i64 p.1)] [(28,cN p.2.1)])
    (fun p=>p.1<=y.length/\zeP x y i x[i] p.1 p.2.1 p.2.2) (fun p=>y.length-p.1) (0,w,0) ?_ ⟨Qk _,hs.enter⟩ ?_
   .refine Q6 rfl ?_ ?_ rfl ?_<;>simp only[go_sem,QF]<;>simp
   .rintro⟨j,w,c⟩ ⟨hj,hs⟩
    simp only at hj hs ⊢;simp only[go_sem];refine QI (fun KA=>?_) (fun KA=>?_)
    .have Xy:j<y.length:=by omega
     have GO:=hy _ (Qf Xy);have Nm:=GO;simp only[BB]at Nm;have hw:i+j<w.length:=by have:=hs.1;omega
     have FB:=hs.2.1 _ (Qf hw);have hc:=hs.2.2.1;simp only[BB]at FB hc;have WS:x[i]*y[j]<=999999999*999999999:=wax (by omega) (by omega);have Y0:=hs.next Xy hw Vm GO rfl;have eij:(i:Int)+(j:Int)=((i+j:Nat):Int):=by omega
     have et:((c:Int)+((w[i+j]:Int)+(x[i]:Int)*(y[j]:Int)))=((c+(w[i+j]+x[i]*y[j]):Nat):Int):=by omega
     have KV:(c+(w[i+j]+x[i]*y[j]))%1000000000<1000000000:=waw _ (by decide);generalize hT:c+(w[i+j]+x[i]*y[j])=t at *
     (iterate 3((try simp only[go_sem,Q8 Xy,KA,eij,za0 hw]);try simp(disch:=omega)only[Q4,QC,QD,et,Zx,QS]))
     have Et:=hs.1;refine⟨by omega,⟨by omega,by omega⟩,⟨by omega,by omega⟩,by rw[zaY];omega,?_⟩;refine⟨(j+1,w.set (i+j) (t%BB),t/BB),⟨Xy,Y0⟩,(by show y.length-(j+1)<y.length-j;omega),?_⟩;refine Q6 rfl ?_ ?_ rfl ?_<;>simp only[go_sem,QF,zap hw,BB]<;>simp
    .obtain rfl:j=y.length:=by omega
     have Et:=hs.1;have hc:=hs.2.2.1;simp only[BB]at hc;have hw:i+y.length<w.length:=by omega
     have Y0:=hs.done Yz;have eij:(i:Int)+(y.length:Int)=((i+y.length:Nat):Int):=by omega
     (iterate 3((try simp only[go_sem,eij]);try simp(disch:=omega)only[Q4,QD]))
     refine⟨⟨by omega,by omega⟩,by rw[zaY];omega,?_⟩;refine⟨(i+1,w.set (i+y.length) c),⟨Yz,Y0⟩,(by show x.length-(i+1)<x.length-i;omega),?_⟩;refine Q6 rfl ?_ ?_ rfl ?_<;>simp only[go_sem,QF,zap hw]<;>simp
  .obtain rfl:i=x.length:=by omega
   obtain⟨h1,h2,h3,h4⟩:=hs;rw[waa]at h4;simp only[go_sem];refine zcd 28 1 (x.length+y.length) rfl (zf0 w (by omega)) (by simp only[go_sem]<;>rfl) (by rw[<-h1];exact Yp Z3) ?_ ?_
   .simp only[go_sem]<;>rfl
   .simp only[go_sem]
    rw[<-h4,zcL h2];exact Yk
def ByI(x:List Nat)(n k:Nat)(qs:List Nat)(l:Nat):Prop:=k+qs.length=x.length/\(∀ z∈qs,z<BB)/\l<n/\val qs*n+l=val (x.drop k)
theorem ByI.next{x qs:List Nat}{n i l:Nat}(h:ByI x n (i+1) qs l)(hn:n<BB)(hi:i<x.length)(hx:x[i]<BB):ByI x n i ((l*BB+x[i])/n::qs) ((l*BB+x[i])%n):=by
 obtain⟨h1,h2,h3,h4⟩:=h;have Xu:0<n:=by omega
 refine⟨by simp;omega,fun z hz=>?_,waw _ Xu,?_⟩
 .rcases wad.1 hz with rfl|hz
  .rw[wdd Xu]
   have:(l+1)*BB<=n*BB:=wag _ h3;rw[war,Qu n]at this;omega
  .exact h2 z hz
 .rw[waD hi]
  simp only[val];rw[<-h4,war,Nat.add_right_comm,Qu _ n,wcn,wae,Qu l,<-waf];omega
theorem ByI.done{x qs:List Nat}{n l:Nat}(h:ByI x n 0 qs l):trimZ qs=dig (val x/n)/\l=val x%n:=by
 obtain⟨h1,h2,h3,h4⟩:=h;rw[wcf]at h4;rw[zcL h2];have Xu:0<n:=by omega
 refine⟨?_,?_⟩
 .rw[<-h4,Qu,wde Xu,wbp h3,wap]
 .rw[<-h4,Qu,wdf,wbv h3]
theorem ze2{k y:Nat}{qs:List Nat}:(List.replicate (k+1) 0++qs).set k y=List.replicate k 0++y::qs:=by
 rw[List.replicate_succ',waN,wdT,Qb (by simp)];simp
theorem zn3(x:List Nat)(n:Nat)(hl:x.length<30000000000000)(hx:∀ z∈x,z<BB)(Xu:0<n)(hn:n<BB):Q7 prog 176 [tN x,tI .u32 n] (.tup [tN (dig (val x/n)),tI .u32 (val x%n:Nat)]):=by
 refine QH QB call176 func176 rfl ntmps176 results176 (by simp) (by decide) ?_;have G8:=hn;simp only[BB]at G8
 (iterate 3((try simp only[go_sem]);try simp(disch:=omega)only[Q4]))
 refine⟨by omega,?_⟩;refine QJ (fun p:Nat×List Nat×Nat=>stL 43 [(0,aN x),(1,litI .u32 n),(6,.one (.vec 11 1 0 x.length)),(7,litI .u64 p.2.2),(8,litI .i64 ((p.1:Int)-1))] [(11,cN (List.replicate p.1 0++p.2.1))])
  (fun p=>ByI x n p.1 p.2.1 p.2.2) (fun p=>p.1) (x.length,[],0) ?_ ⟨by simp,by simp,Xu,by simp[val]⟩ ?_
 .refine Q6 rfl ?_ ?_ rfl ?_<;>simp only[go_sem,QF,zdP,wak]<;>simp
 .rintro⟨k,qs,l⟩ hs
  simp only at hs ⊢;have L1:=hs.1;simp only[go_sem];refine QI (fun Y1=>?_) (fun YI=>?_)
  .obtain⟨i,rfl⟩:∃ i,k=i+1:=⟨k-1,by omega⟩
   have e:((i+1:Nat):Int)-1=i:=by omega
   have e':((i:Int)+1-1)=i:=by omega
   have hi:i<x.length:=by omega
   have Vm:=hx _ (Qf hi);have Y0:=hs.next hn hi Vm;have L2:=hs.2.2.1;simp only[BB]at Vm Y0;have hw:i<(List.replicate (i+1) 0++qs).length:=by simp;omega
   have Et:(List.replicate (i+1) 0++qs).length=x.length:=by simp;omega
   have et:(l:Int)*1000000000+(x[i]:Int)=((l*1000000000+x[i]:Nat):Int):=by omega
   have hq:=Y0.2.1 _ (wam ..);have hr:=Y0.2.2.1;simp only[BB]at hq;generalize hT:l*1000000000+x[i]=t at *
   have eq1:Int.tdiv (t:Int) (n:Int)=((t/n:Nat):Int):=zrd;have er1:Int.tmod (t:Int) (n:Int)=((t%n:Nat):Int):=zrc;generalize t/n=q at *
   generalize t%n=r at *
   (iterate 3((try simp only[go_sem,Q8 hi,e']);try simp(disch:=omega)only[Q4,QC,QD,et,eq1,er1]))
   refine⟨⟨by omega,by omega⟩,fun _=>by omega,⟨by omega,by omega⟩,by rw[zaY];omega,fun _=>by omega,?_⟩;refine⟨(i,q::qs,r),Y0,waO i,?_⟩;refine Q6 rfl ?_ ?_ rfl ?_<;>simp only[go_sem,QF,zap hw,ze2]<;>simp
  .obtain rfl:k=0:=by omega
   have Vf:=hs.done;have L2:=hs.2.2.1;have G9:qs.length=x.length:=by omega
   rw[wbS,wbw];simp only[go_sem];refine zcd 11 1 x.length rfl (zf0 qs (by omega)) (by simp only[go_sem]<;>rfl) (by rw[<-G9];exact Yp Z3) ?_ ?_
   .simp only[go_sem]<;>rfl
   ·(iterate 3((try simp only[go_sem]);try simp(disch:=omega)only[QD]))
    rw[Vf.1,Vf.2];exact zgz (.tup [tN (dig (val x/n)),tI .u32 (val x%n:Nat)])
theorem zpe(xs:List Nat)(hl:xs.length<10000000000000):Q7 prog 158 [tN xs] (tN xs):=by
 refine Q7.nil1 (fun h=>?_) ?_
 .obtain rfl:xs=[]:=by simpa using h
  refine QH QB call158 func158 rfl ntmps158 results158 (by simp) (by decide) ?_;simp only[go_sem];exact zcA
 .refine QH QB call158 func158 rfl ntmps158 results158 (by simp) (by decide) ?_
  simp only[go_sem];refine zko 5 1 rfl (Qd _) (by simp only[go_sem]<;>decide) (by simp only[go_sem]) (by decide) ?_;simp only[go_sem];refine zar (Qd _) (sz:=1) (bytes:=4) (by simp only[go_sem,QW]<;>decide) Z3 [] xs (by simp only[go_sem]<;>rfl) rfl (by simp only[go_sem]<;>rfl) (by simp only[go_sem]<;>rfl) rfl (by simp;omega) (by decide) ?_;simp only[go_sem];exact zgi Z3 (by simp only[go_sem]) rfl
theorem zsI:∀ {xs:List Nat},∃ l,xs=trimZ xs++l:=by
 intro xs;generalize h:xs.length=n
 induction n generalizing xs with
 |zero=>obtain rfl:=wbd.1 h;exact⟨[],rfl⟩
 |succ n ih =>
  rcases List.eq_nil_or_concat xs with rfl|⟨l,x,rfl⟩
  .simp at h
  .simp only[List.concat_eq_append]at *
   by_cases hx:x=0
   .subst hx
    rw[zis];obtain⟨l2,h2⟩:=ih (xs:=l) (by simpa using h);refine⟨l2++[0],?_⟩;rw[<-waN,<-h2]
   .rw[zg1 (by simp[hx])];exact⟨[],by simp⟩
theorem zsJ(xs:List Nat)(hl:xs.length<30000000000000):Ze prog 157 [.one (.vec PIN 1 0 xs.length)] (Yv PIN (cN xs)) (.one (.vec PIN 1 0 (trimZ xs).length)) (Yv PIN (cN xs)):=by
 refine zih QB call157 func157 rfl ntmps157 results157 (by simp) (by decide) ?_ ?_ ?_
 .exact zkO
 .exact za6
 simp only[go_sem];refine QJ (fun k:Nat=>stL 21 [(0,.one (.vec PIN 1 0 k))] [(PIN,cN xs)]) (fun k=>k<=xs.length/\trimZ (xs.take k)=trimZ xs) (fun k=>k) xs.length ?_ ⟨Qd _,by rw[waa]⟩ ?_
 .refine Q6 rfl ?_ ?_ rfl ?_<;>simp only[go_sem,QF]<;>simp
 .rintro k ⟨hi,YS⟩
  simp only[go_sem];rcases wce k with rfl|hk
  .simp only[go_sem]
   rw[<-YS];rfl
  .obtain⟨i,rfl⟩:∃ i,k=i+1:=⟨k-1,by omega⟩
   have Y6:i<xs.length:=by omega
   have YV:(0:Int)<((i+1:Nat):Int):=by omega
   have X9:(0:Int)<(i:Int)+1:=by omega
   have e:((i+1:Nat):Int)-1=i:=by omega
   have e2:(i:Int)+1-1=i:=by omega
   rw[Zl Y6]at YS
   (iterate 3((try simp only[go_sem,X9,e2,za0 Y6]);try simp(disch:=omega)only[Q4]))
   refine⟨by omega,QI (fun h=>?_) (fun h=>?_)⟩
   .have hx:xs[i]=0:=by omega
    rw[hx,zis]at YS
    (iterate 3((try simp only[go_sem,e2]);try simp(disch:=omega)only[Q4,show(0:Int)<=(i:Int) by omega]))
    refine⟨⟨Qk _,by omega,.inl trivial⟩,i,⟨by omega,YS⟩,waO i,?_⟩;refine Q6 rfl ?_ ?_ rfl ?_<;>simp only[go_sem,QF]<;>simp
   .have hx:xs[i]≠0:=by omega
    simp only[go_sem];rw[zg1 (by rw[List.getLast?_concat];simp[hx])]at YS;rw[<-YS,Qj,waB,wbx (by omega)];rfl
theorem ztj(a b:List Nat)(ha:a.length<10000000000000)(hb:b.length<10000000000000)(OB:vN a≠0)(OC:vN b≠0):zgK prog 149 [tN a,tN b] 1 (dig (vN a*vN b)).length (cN (dig (vN a*vN b))):=by
 refine zii (b:=28) QB call149 func149 rfl ntmps149 results149 (by simp) (by decide) ?_ ?_
 .exact za6
 simp only[go_sem];refine Q2 (zct a (by omega)) rfl ?_;simp only[go_sem];refine Q2 (zct b (by omega)) rfl ?_;have UG:=zam a;have VS:=zam b;have hX:=zaf a;have hY:=zaf b;unfold vN at *
 generalize held a=x at *
 generalize held b=y at *
 have hx:=hX.1;have hy:=hY.1;have WR:x≠[]:=fun h=>OB (by rw[h];rfl)
 have O0:0<x.length:=wbc.2 WR;have KU:¬((x.length:Int)=0):=by omega
 have XH:y≠[]:=fun h=>OC (by rw[h];rfl)
 have Fq:0<y.length:=wbc.2 XH;have UI:¬((y.length:Int)=0):=by omega
 (iterate 3((try simp only[go_sem,KU,UI]);try simp(disch:=omega)only[Q4]))
 refine⟨by omega,?_⟩;have GN:(x.length:Int)+(y.length:Int)=((x.length+y.length:Nat):Int):=by omega
 have Ey:IntKind.wrap .i64 ((x.length+y.length:Nat):Int)=((x.length+y.length:Nat):Int):=Q4 (by omega) (by omega);refine QJ (fun p:Nat×List Nat=>stL 80 [(0,aN x),(1,aN y),(5,.one (.vec 28 1 0 (x.length+y.length))),(29,aN x),(30,litI .i64 x.length),(31,litI .i64 p.1)] [(28,cN p.2)])
  (fun p=>p.1<=x.length/\zh7 x y p.1 p.2) (fun p=>x.length-p.1) (0,List.replicate (x.length+y.length) 0) ?_ ⟨Qk _,by simp,(fun z hz=>by rw[wd0 hz];decide),(fun k _=>by simp[weq];split<;>rfl),by rw[zkd];simp[val]⟩ ?_
 .refine Q6 rfl ?_ ?_ rfl ?_<;>simp only[go_sem,GN,QF,zdP]<;>simp
 .rintro⟨i,w⟩ ⟨hi,hs⟩
  simp only at hi hs ⊢;simp only[go_sem];refine QI (fun Y1=>?_) (fun YI=>?_)
  .have Yz:i<x.length:=by omega
   have Vm:=hx _ (Qf Yz);have Nl:=Vm;simp only[BB]at Nl;simp only[go_sem,Q8 Yz,Y1];refine⟨by omega,?_⟩;refine QJ (fun p:Nat×List Nat×Nat=>stL 80 [(0,aN x),(1,aN y),(5,.one (.vec 28 1 0 (x.length+y.length))),(6,litI .i64 i),(7,litI .u32 x[i]),(8,litI .u64 p.2.2),(29,aN x),(30,litI .i64 x.length),(31,litI .i64 i),(36,aN y),(37,litI .i64 y.length),(38,litI .i64 p.1)] [(28,cN p.2.1)])
    (fun p=>p.1<=y.length/\zeP x y i x[i] p.1 p.2.1 p.2.2) (fun p=>y.length-p.1) (0,w,0) ?_ ⟨Qk _,hs.enter⟩ ?_
   .refine Q6 rfl ?_ ?_ rfl ?_<;>simp only[go_sem,QF]<;>simp
   .rintro⟨j,w,c⟩ ⟨hj,hs⟩
    simp only at hj hs ⊢;simp only[go_sem];refine QI (fun KA=>?_) (fun KA=>?_)
    .have Xy:j<y.length:=by omega
     have GO:=hy _ (Qf Xy);have Nm:=GO;simp only[BB]at Nm;have hw:i+j<w.length:=by have:=hs.1;omega
     have FB:=hs.2.1 _ (Qf hw);have hc:=hs.2.2.1;simp only[BB]at FB hc;have WS:x[i]*y[j]<=999999999*999999999:=wax (by omega) (by omega);have Y0:=hs.next Xy hw Vm GO rfl;have eij:(i:Int)+(j:Int)=((i+j:Nat):Int):=by omega
     have et:((c:Int)+((w[i+j]:Int)+(x[i]:Int)*(y[j]:Int)))=((c+(w[i+j]+x[i]*y[j]):Nat):Int):=by omega
     have KV:(c+(w[i+j]+x[i]*y[j]))%1000000000<1000000000:=waw _ (by decide);generalize hT:c+(w[i+j]+x[i]*y[j])=t at *
     (iterate 3((try simp only[go_sem,Q8 Xy,KA,eij,za0 hw]);try simp(disch:=omega)only[Q4,QC,QD,et,Zx,QS]))
     have Et:=hs.1;refine⟨by omega,⟨by omega,by omega⟩,⟨by omega,by omega⟩,by rw[zaY];omega,?_⟩;refine⟨(j+1,w.set (i+j) (t%BB),t/BB),⟨Xy,Y0⟩,(by show y.length-(j+1)<y.length-j;omega),?_⟩;refine Q6 rfl ?_ ?_ rfl ?_<;>simp only[go_sem,QF,zap hw,BB]<;>simp
    .obtain rfl:j=y.length:=by omega
     have Et:=hs.1;have hc:=hs.2.2.1;simp only[BB]at hc;have hw:i+y.length<w.length:=by omega
     have Y0:=hs.done Yz;have eij:(i:Int)+(y.length:Int)=((i+y.length:Nat):Int):=by omega
     (iterate 3((try simp only[go_sem,eij]);try simp(disch:=omega)only[Q4,QD]))
     refine⟨⟨by omega,by omega⟩,by rw[zaY];omega,?_⟩;refine⟨(i+1,w.set (i+y.length) c),⟨Yz,Y0⟩,(by show x.length-(i+1)<x.length-i;omega),?_⟩;refine Q6 rfl ?_ ?_ rfl ?_<;>simp only[go_sem,QF,zap hw]<;>simp
  .obtain rfl:i=x.length:=by omega
   obtain⟨h1,h2,h3,h4⟩:=hs;rw[waa]at h4;simp only[go_sem];rw[<-h1];refine ze1 28 (by decide) (zsJ w (by omega)) (by simp only[go_sem]<;>rfl) (by simp only[go_sem]<;>rfl) zkO za6 za6 ?_;obtain⟨l,hl⟩:=zsI (xs:=w);rw[<-h4,<-zcL h2];simp only[go_sem];exact⟨cN l,(congrArg cN hl).trans zgQ⟩
theorem zpE{A B:List Nat}{x y:Nat}:(A++x::B).set A.length y=A++y::B:=by simp
def zfJ(u v:List Nat)(q:Nat)(ds:List Nat)(c b:Nat):Prop :=
 ds.length<=u.length/\(∀ z∈ds,z<BB)/\c<BB/\b<=1/\(v.length<ds.length->c=0)/\val ds+q*val (v.take ds.length)=val (u.take ds.length)+BB^ds.length*(b+c)
theorem zfJ.next{u v ds:List Nat}{q c b e t b':Nat}(h:zfJ u v q ds c b)(hu:∀ z∈u,z<BB)(hv:∀ z∈v,z<BB)(hq:q<BB)(hk:ds.length<u.length)(ht:t=c+q*v.getD ds.length 0)(hb':b'<=1)(he:e<BB)(hd:e+t%BB+b=u[ds.length]+BB*b') :
  zfJ u v q (ds++[e]) (t/BB) b':=by
 obtain⟨h1,h2,h3,h4,h5,h6⟩:=h;have Hk:v.getD ds.length 0<BB:=by
  by_cases h:ds.length<v.length
  .simp[h];exact hv _ (Qf h)
  .simp[show v.length<=ds.length by omega,BB]
 have Y4:(ds++[e]).length=ds.length+1:=by simp
 have e2:=wco t BB;rw[zfJ,Y4];refine⟨hk,fun z hz=>?_,?_,hb',fun WE=>?_,?_⟩
 .rcases wao.1 hz with hz|hz
  .exact h2 z hz
  .simp at hz;subst hz;exact he
 .have h7:q*v.getD ds.length 0<=999999999*999999999:=wax (by simp only[BB]at hq;omega) (by simp only[BB]at Hk;omega)
  simp only[BB]at h3 ⊢;omega
 .have:v.getD ds.length 0=0:=by simp[show v.length<=ds.length by omega]
  rw[this]at ht;exact wbp (by omega)
 .rw[za2,zem,zem,wae,waJ,waf]
  have eu:u.getD ds.length 0=u[ds.length]:=by simp[hk]
  rw[eu];have e3:=congrArg (BB^ds.length*·) hd;have e4:=congrArg (BB^ds.length*·) (e2.trans ht);simp only[wae]at e3 e4 h6;simp only[val,waV,wap,wae];have e5:q*(BB^ds.length*v.getD ds.length 0)=BB^ds.length*(q*v.getD ds.length 0):=by rw[<-waf,<-waf,Qu q]
  rw[e5];omega
def zmp(u v:List Nat)(q:Nat)(u':List Nat)(b:Nat):Prop:=u'.length=u.length/\(∀ z∈u',z<BB)/\b<=1/\val u'+q*val v=val u+BB^u.length*b
theorem zfJ.done{u v ds:List Nat}{q c b:Nat}(h:zfJ u v q ds c b)(hl:ds.length=u.length)(hv:v.length<u.length):zmp u v q ds b:=by
 obtain⟨h1,h2,h3,h4,h5,h6⟩:=h;have hc:=h5 (by omega);subst hc;rw[waM (by omega),waM (by omega),wap]at h6;exact⟨hl,h2,h4,by rw[<-hl];exact h6⟩
def pad:Nat->Nat->List Nat
 |0,_=>[]
 |n+1,m=>m%BB::pad n (m/BB)
theorem zdR:∀ {n m:Nat},(pad n m).length=n
 |0,_=>rfl
 |n+1,m=>by simp[pad,zdR]
theorem zjE:∀ {n m:Nat},∀ z∈pad n m,z<BB
 |0,_,z,hz=>by simp[pad]at hz
 |n+1,m,z,hz=>by
  simp only[pad,wad]at hz;rcases hz with rfl|hz
  .exact waw _ (by decide)
  .exact zjE z hz
theorem zpF:∀ {xs:List Nat} {n:Nat},xs.length=n->(∀ z∈xs,z<BB)->pad n (val xs)=xs
 |[],_,h,_=>by subst h;rfl
 |x::l,_,h,hx=>by
  subst h;have h1:=hx x (wam ..);simp only[Qe,pad,val];rw[wet,wbv h1,Nat.add_mul_div_left _ _ (by decide),wbp h1,waT,zpF rfl fun z hz=>hx z (wal _ hz)]
theorem zlF:∀ {n m:Nat},m<BB^n->val (pad n m)=m
 |0,m,h=>by simp at h;subst h;rfl
 |n+1,m,h=>by
  simp only[pad,val];rw[zlF (by rw[wdd (by decide),<-waJ];exact h)];exact wco m BB
theorem zqw{xs:List Nat}{n m:Nat}(h:xs.length=n)(hx:∀ z∈xs,z<BB)(hm:val xs=m):xs=pad n m:=by rw[<-hm,zpF h hx]
def zd6(u v:List Nat)(q:Nat):Nat:=if q*val v<=val u then 0 else 1
def zbX(u v:List Nat)(q:Nat):List Nat:=pad u.length (val u+BB^u.length*zd6 u v q-q*val v)
theorem zmp.tells{u v u':List Nat}{q b:Nat}(h:zmp u v q u' b)(hu:∀ z∈u,z<BB):u'=zbX u v q/\b=zd6 u v q:=by
 obtain⟨h1,h2,h3,h4⟩:=h;have h5:=Yu h2;have h6:=Yu hu;rw[h1]at h5;have hb:b=zd6 u v q:=by
  unfold zd6;have:b=0\/b=1:=by omega
  rcases this with rfl|rfl
  .rw[Qc (by omega)]
  .rw[Qb (by omega)]
 refine⟨zqw h1 h2 ?_,hb⟩;rw[<-hb];omega
theorem znc(A u B v:List Nat)(q:Nat)(hl:(A++u++B).length<10000000000000)(hu:∀ z∈u,z<BB)(hv:∀ z∈v,z<BB)(hq:q<BB)(WE:v.length<u.length) :
  Ze prog 179 [.one (.vec PIN 1 A.length u.length),aN v,litI .u64 q] (Yv PIN (cN (A++u++B))) (QO (decide (0<zd6 u v q))) (Yv PIN (cN (A++zbX u v q++B))):=by
 refine zih QB call179 func179 rfl ntmps179 results179 (by simp) (by decide) ?_ ?_ ?_
 .exact zeq rfl
 .exact za6
 have OZ:=hq;simp only[BB]at OZ;simp only[Qj]at hl;simp only[go_sem];refine QJ (fun p:List Nat×Nat×Nat=>stL 54 [(0,.one (.vec PIN 1 A.length u.length)),(1,aN v),(2,litI .u64 q),(7,litI .u64 p.2.1),(8,litI .i64 p.2.2),(12,litI .i64 u.length),(13,litI .i64 p.1.length)] [(PIN,cN (A++p.1++(u.drop p.1.length++B)))])
  (fun p=>zfJ u v q p.1 p.2.1 p.2.2) (fun p=>u.length-p.1.length) ([],0,0) ?_ ⟨Qk _,by simp,by decide,Qk _,fun _=>rfl,by simp[val]⟩ ?_
 .refine Q6 rfl ?_ ?_ rfl ?_<;>simp only[go_sem,QF]<;>simp
 .rintro⟨ds,c,b⟩ hs
  simp only at hs ⊢;simp only[go_sem];refine QI (fun Y1=>?_) (fun YI=>?_)
  .have Yz:ds.length<u.length:=by omega
   obtain⟨x,us,hd⟩:∃ x us,u.drop ds.length=x::us:=⟨_,_,waD Yz⟩
   have hx:u[ds.length]=x:=by rw[waD Yz]at hd;exact(wdF hd).1
   have Nv:us=u.drop (ds.length+1):=by rw[waD Yz]at hd;exact(wdF hd).2.symm
   have Uz:=hu _ (Qf Yz);rw[hx]at Uz;simp only[BB]at Uz;have hc:=hs.2.2.1;simp only[BB]at hc;have hb:=hs.2.2.2.1;rw[hd,wb9];have V6:∀ e,(A++(ds++x::(us++B))).set (A.length+ds.length) e=A++(ds++[e])++(us++B):=fun e=>by
    rw[<-waN,<-Qj,zpE];simp
   have UM:∀ h:A.length+ds.length<(A++(ds++x::(us++B))).length,(A++(ds++x::(us++B)))[A.length+ds.length]=x:=fun h=>by
    simp only[<-waN A];simp only[<-Qj];simp
   have hw:A.length+ds.length<(A++(ds++x::(us++B))).length:=by simp only[Qj,Qe];omega
   replace UM:=UM hw
   generalize A++(ds++x::(us++B))=W at *
   simp only[go_sem];refine QI (fun Nw=>?_) (fun Nw=>?_)
   .have Ur:ds.length<v.length:=by omega
    have hy:=hv _ (Qf Ur);simp only[BB]at hy;have WS:q*v[ds.length]<=999999999*999999999:=wax (by omega) (by omega);have ht:c+q*v[ds.length]=c+q*v.getD ds.length 0:=by simp[Ur]
    have et:(c:Int)+(q:Int)*(v[ds.length]:Int)=((c+q*v[ds.length]:Nat):Int):=by omega
    generalize c+q*v[ds.length]=t at *
    have Kj:t%1000000000<1000000000:=waw _ (by decide)
    (iterate 3((try simp only[go_sem,Q8 Ur,Nw,za0 hw,UM]);try simp(disch:=omega)only[Q4,QC,et,Zx,QS]))
    refine⟨by omega,⟨by omega,by omega⟩,QI (fun Gm=>?_) (fun Gm=>?_)⟩
    .have en:x+1000000000-t%1000000000-b<1000000000:=by omega
     have ee:((x:Int)-((t%1000000000:Nat):Int)-(b:Int))+1000000000=((x+1000000000-t%1000000000-b:Nat):Int):=by omega
     have Y0:=hs.next (e:=x+1000000000-t%1000000000-b) (t:=t) (b':=1) hu hv hq Yz ht (by decide) (by simp only[BB];exact en) (by simp only[BB];omega);generalize x+1000000000-t%1000000000-b=e at *
     (iterate 3((try simp only[go_sem,ee]);try simp(disch:=omega)only[Q4,QD]))
     refine⟨by omega,by rw[zaY];omega,?_⟩;refine⟨(ds++[e],t/1000000000,1),Y0,(by show u.length-(ds++[e]).length<u.length-ds.length;rw[Qj];simp only[Qe,Qi];omega),?_⟩;refine Q6 rfl ?_ ?_ rfl ?_<;>simp only[go_sem,QF,zap hw,V6,Nv,Qj,Qe,Qi]<;>simp
    .have en:x-t%1000000000-b<1000000000:=by omega
     have ee:((x:Int)-((t%1000000000:Nat):Int)-(b:Int))=((x-t%1000000000-b:Nat):Int):=by omega
     have Y0:=hs.next (e:=x-t%1000000000-b) (t:=t) (b':=0) hu hv hq Yz ht (by decide) (by simp only[BB];exact en) (by simp only[BB];omega);generalize x-t%1000000000-b=e at *
     (iterate 3((try simp only[go_sem,ee]);try simp(disch:=omega)only[Q4,QD]))
     refine⟨by omega,by rw[zaY];omega,?_⟩;refine⟨(ds++[e],t/1000000000,0),Y0,(by show u.length-(ds++[e]).length<u.length-ds.length;rw[Qj];simp only[Qe,Qi];omega),?_⟩;refine Q6 rfl ?_ ?_ rfl ?_<;>simp only[go_sem,QF,zap hw,V6,Nv,Qj,Qe,Qi]<;>simp
   .obtain⟨t,et⟩:∃ t,t=c:=⟨c,rfl⟩
    have ht:t=c+q*v.getD ds.length 0:=by rw[et];simp[show v.length<=ds.length by omega]
    have Kj:t%1000000000<1000000000:=waw _ (by decide)
    (iterate 3((try simp only[go_sem,<-et,Zx,QS,za0 hw,UM]);try simp(disch:=omega)only[Q4,QC]))
    refine⟨⟨by omega,by omega⟩,QI (fun Gm=>?_) (fun Gm=>?_)⟩
    .have en:x+1000000000-t%1000000000-b<1000000000:=by omega
     have ee:((x:Int)-((t%1000000000:Nat):Int)-(b:Int))+1000000000=((x+1000000000-t%1000000000-b:Nat):Int):=by omega
     have Y0:=hs.next (e:=x+1000000000-t%1000000000-b) (t:=t) (b':=1) hu hv hq Yz ht (by decide) (by simp only[BB];exact en) (by simp only[BB];omega);generalize x+1000000000-t%1000000000-b=e at *
     (iterate 3((try simp only[go_sem,ee]);try simp(disch:=omega)only[Q4,QD]))
     refine⟨by omega,by rw[zaY];omega,?_⟩;refine⟨(ds++[e],t/1000000000,1),Y0,(by show u.length-(ds++[e]).length<u.length-ds.length;rw[Qj];simp only[Qe,Qi];omega),?_⟩;refine Q6 rfl ?_ ?_ rfl ?_<;>simp only[go_sem,QF,zap hw,V6,Nv,Qj,Qe,Qi]<;>simp
    .have en:x-t%1000000000-b<1000000000:=by omega
     have ee:((x:Int)-((t%1000000000:Nat):Int)-(b:Int))=((x-t%1000000000-b:Nat):Int):=by omega
     have Y0:=hs.next (e:=x-t%1000000000-b) (t:=t) (b':=0) hu hv hq Yz ht (by decide) (by simp only[BB];exact en) (by simp only[BB];omega);generalize x-t%1000000000-b=e at *
     (iterate 3((try simp only[go_sem,ee]);try simp(disch:=omega)only[Q4,QD]))
     refine⟨by omega,by rw[zaY];omega,?_⟩;refine⟨(ds++[e],t/1000000000,0),Y0,(by show u.length-(ds++[e]).length<u.length-ds.length;rw[Qj];simp only[Qe,Qi];omega),?_⟩;refine Q6 rfl ?_ ?_ rfl ?_<;>simp only[go_sem,QF,zap hw,V6,Nv,Qj,Qe,Qi]<;>simp
  .have Vd:ds.length=u.length:=by have:=hs.1;omega
   have hR:=(hs.done Vd WE).tells hu;rw[Vd,wbk];simp only[go_sem];rw[<-hR.1,<-hR.2];exact⟨by congr 1;rw[waG];omega,rfl⟩
def zfN(u v ds:List Nat)(c:Nat):Prop:=ds.length<=u.length/\(∀ z∈ds,z<BB)/\c<=1/\val ds+BB^ds.length*c=val (u.take ds.length)+val (v.take ds.length)
theorem zfN.next{u v ds:List Nat}{c t:Nat}(h:zfN u v ds c)(hu:∀ z∈u,z<BB)(hv:∀ z∈v,z<BB)(hk:ds.length<u.length)(ht:t=u[ds.length]+c+v.getD ds.length 0):zfN u v (ds++[t%BB]) (t/BB):=by
 obtain⟨h1,h2,h3,h4⟩:=h;have Hk:v.getD ds.length 0<BB:=by
  by_cases h:ds.length<v.length
  .simp[h];exact hv _ (Qf h)
  .simp[show v.length<=ds.length by omega,BB]
 have Sk:=hu _ (Qf hk);have Y4:(ds++[t%BB]).length=ds.length+1:=by simp
 rw[zfN,Y4];refine⟨hk,fun z hz=>?_,?_,?_⟩
 .rcases wao.1 hz with hz|hz
  .exact h2 z hz
  .simp at hz;subst hz;exact waw _ (by decide)
 .simp only[BB]at Hk Sk ⊢;omega
 .have eu:u.getD ds.length 0=u[ds.length]:=by simp[hk]
  rw[za2,zem,zem,waJ,waf,eu];have e4:=congrArg (BB^ds.length*·) ((wco t BB).trans ht);simp only[wae]at e4;simp only[val,waV,wap];omega
def zj0(u v:List Nat):List Nat:=pad u.length ((val u+val v)%BB^u.length)
theorem zfN.done{u v ds:List Nat}{c:Nat}(h:zfN u v ds c)(hl:ds.length=u.length)(hv:v.length<=u.length):ds=zj0 u v:=by
 obtain⟨h1,h2,h3,h4⟩:=h;rw[hl,waa,waM hv]at h4;have h5:=Yu h2;rw[hl]at h5;refine zqw hl h2 ?_;rw[<-h4,wet,wbv h5]
theorem znp(A u B v:List Nat)(hl:(A++u++B).length<10000000000000)(hu:∀ z∈u,z<BB)(hv:∀ z∈v,z<BB)(WE:v.length<=u.length) :
  Ze prog 180 [.one (.vec PIN 1 A.length u.length),aN v] (Yv PIN (cN (A++u++B))) undefA (Yv PIN (cN (A++zj0 u v++B))):=by
 refine zih QB call180 func180 rfl ntmps180 results180 (by simp) (by decide) ?_ ?_ ?_
 .exact zeq rfl
 .exact za6
 simp only[Qj]at hl;simp only[go_sem];refine QJ (fun p:List Nat×Nat=>stL 36 [(0,.one (.vec PIN 1 A.length u.length)),(1,aN v),(4,litI .u32 p.2),(8,litI .i64 u.length),(9,litI .i64 p.1.length)] [(PIN,cN (A++p.1++(u.drop p.1.length++B)))])
  (fun p=>zfN u v p.1 p.2) (fun p=>u.length-p.1.length) ([],0) ?_ ⟨Qk _,by simp,Qk _,by simp[val]⟩ ?_
 .refine Q6 rfl ?_ ?_ rfl ?_<;>simp only[go_sem,QF]<;>simp
 .rintro⟨ds,c⟩ hs
  simp only at hs ⊢;simp only[go_sem];refine QI (fun Y1=>?_) (fun YI=>?_)
  .have Yz:ds.length<u.length:=by omega
   obtain⟨x,us,hd⟩:∃ x us,u.drop ds.length=x::us:=⟨_,_,waD Yz⟩
   have hx:u[ds.length]=x:=by rw[waD Yz]at hd;exact(wdF hd).1
   have Nv:us=u.drop (ds.length+1):=by rw[waD Yz]at hd;exact(wdF hd).2.symm
   have Uz:=hu _ (Qf Yz);rw[hx]at Uz;simp only[BB]at Uz;have hc:=hs.2.2.1;rw[hd,wb9];have V6:∀ e,(A++(ds++x::(us++B))).set (A.length+ds.length) e=A++(ds++[e])++(us++B):=fun e=>by
    rw[<-waN,<-Qj,zpE];simp
   have UM:∀ h:A.length+ds.length<(A++(ds++x::(us++B))).length,(A++(ds++x::(us++B)))[A.length+ds.length]=x:=fun h=>by
    simp only[<-waN A];simp only[<-Qj];simp
   have hw:A.length+ds.length<(A++(ds++x::(us++B))).length:=by simp only[Qj,Qe];omega
   replace UM:=UM hw
   generalize A++(ds++x::(us++B))=W at *
   simp only[go_sem,za0 hw,UM];refine⟨⟨by omega,by omega⟩,QI (fun Nw=>?_) (fun Nw=>?_)⟩
   .have Ur:ds.length<v.length:=by omega
    have hy:=hv _ (Qf Ur);simp only[BB]at hy;have ht:x+c+v[ds.length]=u[ds.length]+c+v.getD ds.length 0:=by simp[Ur,hx]
    have et:(x:Int)+(c:Int)+(v[ds.length]:Int)=((x+c+v[ds.length]:Nat):Int):=by omega
    have Y0:=hs.next hu hv Yz ht;have WP:x+c+v[ds.length]<4294967296:=by omega
    generalize x+c+v[ds.length]=t at *
    have Kj:t%1000000000<1000000000:=waw _ (by decide)
    (iterate 3((try simp only[go_sem,Q8 Ur,Nw]);try simp(disch:=omega)only[Q4,QD,et,Zx,QS]))
    refine⟨by omega,⟨by omega,by omega⟩,by rw[zaY];omega,?_⟩;refine⟨(ds++[t%BB],t/BB),Y0,(by show u.length-(ds++[t%BB]).length<u.length-ds.length;rw[Qj];simp only[Qe,Qi];omega),?_⟩;refine Q6 rfl ?_ ?_ rfl ?_<;>simp only[go_sem,QF,zap hw,V6,Nv,BB,Qj,Qe,Qi]<;>simp
   .have ht:x+c=u[ds.length]+c+v.getD ds.length 0:=by simp[show v.length<=ds.length by omega,hx]
    have et:(x:Int)+(c:Int)=((x+c:Nat):Int):=by omega
    have Y0:=hs.next hu hv Yz ht;have WP:x+c<4294967296:=by omega
    generalize x+c=t at *
    have Kj:t%1000000000<1000000000:=waw _ (by decide)
    (iterate 3((try simp only[go_sem,et]);try simp(disch:=omega)only[Q4,QD,Zx,QS]))
    refine⟨⟨by omega,by omega⟩,by rw[zaY];omega,?_⟩;refine⟨(ds++[t%BB],t/BB),Y0,(by show u.length-(ds++[t%BB]).length<u.length-ds.length;rw[Qj];simp only[Qe,Qi];omega),?_⟩;refine Q6 rfl ?_ ?_ rfl ?_<;>simp only[go_sem,QF,zap hw,V6,Nv,BB,Qj,Qe,Qi]<;>simp
  .have Vd:ds.length=u.length:=by have:=hs.1;omega
   have hR:=hs.done Vd WE;rw[Vd,wbk];simp only[go_sem];rw[<-hR]
structure Knuth(U V D top u2 v1 v2:Nat):Prop where
 u:∃ L,L<D/\U=L+D*(u2+BB*top)
 v:∃ M,M<D/\V=M+D*(v2+BB*v1)
 u2:u2<BB
 v2:v2<BB
 v1:1<=v1
 lt:U<BB*V
section
variable {U V D top u2 v1 v2 q r:Nat}
theorem Knuth.pos(k:Knuth U V D top u2 v1 v2):0<D/\0<V:=by
 obtain⟨L,hL,_⟩:=k.u;obtain⟨M,hM,e⟩:=k.v;refine⟨by omega,?_⟩;have h1:D*1<=D*(v2+BB*v1):=waq _ (by have:=k.v1;simp only[BB];omega);omega
theorem Knuth.le{x y:Nat}(k:Knuth U V D top u2 v1 v2)(h:D*x<=U)(hy:u2+BB*top<y):x<y:=by
 obtain⟨L,hL,e⟩:=k.u;have h1:D*x<D*(u2+BB*top+1):=by rw[wae,wai];omega
 have:=wdK h1;omega
theorem Knuth.qV(k:Knuth U V D top u2 v1 v2){x:Nat}(h:x<=U/V):D*(x*(v2+BB*v1))<=U:=by
 obtain⟨M,hM,e⟩:=k.v;have h1:x*V<=U:=Qo (wag _ h) (wd9 U V);have h2:x*(D*(v2+BB*v1))<=x*V:=waq _ (by omega);have e3:D*(x*(v2+BB*v1))=x*(D*(v2+BB*v1)):=by rw[<-waf,<-waf,Qu D]
 omega
theorem Knuth.start(k:Knuth U V D top u2 v1 v2):U/V<=top/v1:=by
 rw[wdj (by have:=k.v1;omega)];have h1:=k.qV (Qd (U/V));have h2:D*(BB*(U/V*v1))<=D*(U/V*(v2+BB*v1)):=waq _ (by
  rw[wae];have:BB*(U/V*v1)=U/V*(BB*v1):=by rw[<-waf,<-waf,Qu BB]
  omega)
 have h3:=k.le (Qo h2 h1) (y:=BB*(top+1)) (by have:=k.u2;rw[wae];omega);have:=wdK h3;omega
theorem Knuth.big(k:Knuth U V D top u2 v1 v2):U/V<BB:=by
 rw[wdd k.pos.2];exact k.lt
theorem Knuth.less(k:Knuth U V D top u2 v1 v2)(h:q*v1+r=top)(hc:r*BB+u2<q*v2):U/V<=q-1:=by
 rcases wau (U/V) q with h1|h1
 .omega
 .exfalso
  have h2:=k.le (k.qV h1) (y:=u2+BB*top+1) (by omega);have e:q*(v2+BB*v1)=q*v2+BB*(q*v1):=by rw[wae,<-waf,Qu q BB,waf]
  rw[e,<-h,wae,Qu BB r]at h2;omega
theorem Knuth.done(k:Knuth U V D top u2 v1 v2)(h:q*v1+r=top)(hq:q<BB)(hc:r<BB->q*v2<=r*BB+u2):q<=U/V+1:=by
 have Pp:q*v2<=r*BB+u2:=by
  rcases wau r BB with h1|h1
  .exact hc h1
  .have h2:q*v2<=BB*BB:=wax (by omega) (by have:=k.v2;omega)
   have h3:BB*BB<=r*BB:=wag _ h1;omega
 rcases wau (U/V+1) q with h1|h1
 .exfalso
  obtain⟨p,rfl⟩:∃ p,q=p+1:=⟨q-1,by have:=Qk (U/V);generalize U/V=Q at *;omega⟩
  obtain⟨L,hL,eU⟩:=k.u;obtain⟨M,hM,eV⟩:=k.v;have h2:U<p*V:=by
   have:=Nat.lt_mul_div_succ U k.pos.2;rw[Qu]at this;exact wbf this (wag _ (by generalize U/V=Q at *;omega))
  have h3:p*V<=p*(D*(v2+BB*v1+1)):=waq _ (by rw[wae];omega);have h4:D*(u2+BB*top)<D*(p*(v2+BB*v1+1)):=by
   have e:D*(p*(v2+BB*v1+1))=p*(D*(v2+BB*v1+1)):=by rw[<-waf,<-waf,Qu D]
   omega
  have h5:=wdK h4;have e1:p*(v2+BB*v1+1)=p*v2+BB*(p*v1)+p:=by rw[wae,wae,wai,<-waf,Qu p BB,waf]
  have e2:BB*top=BB*(p*v1)+BB*v1+r*BB:=by rw[<-h,war,wcS,wae,wae,Qu r]
  have h6:BB*1<=BB*v1:=waq _ k.v1;rw[war]at Pp;omega
 .exact h1
end
theorem zu9{u v:List Nat}{n:Nat}(hu:∀ z∈u,z<BB)(hv:∀ z∈v,z<BB)(Wk:u.length=n+3)(WE:v.length=n+2)(Y1:val u<BB*val v)(h1:v[n+1]≠0) :
  Knuth (val u) (val v) (BB^n) (u[n+2]*BB+u[n+1]) u[n] v[n+1] v[n]:=by
 refine⟨⟨val (u.take n),?_,?_⟩,⟨val (v.take n),?_,?_⟩,hu _ (Qf _),hv _ (Qf _),by omega,Y1⟩
 .have:=Yu (xs:=u.take n) fun z hz=>hu z (waU hz)
  rwa[waB,wbx (by omega)]at this
 .rw[ze0 (xs:=u) (i:=n) (by omega),waD (i:=n+1) (by omega),waD (i:=n+2) (by omega),wdA (by omega)]
  simp only[val,waV,wap];rw[wc2 u[n+1],Qu BB u[n+2]]
 .have:=Yu (xs:=v.take n) fun z hz=>hv z (waU hz)
  rwa[waB,wbx (by omega)]at this
 .rw[ze0 (xs:=v) (i:=n) (by omega),waD (i:=n+1) (by omega),wdA (by omega)]
  simp only[val,waV,wap]
theorem zoF{u v:List Nat}(Vn:0<val v)(hB:val v<BB^u.length):zbX u v (val u/val v)=pad u.length (val u%val v)/\zd6 u v (val u/val v)=0:=by
 have h1:=wd9 (val u) (val v);have hb:zd6 u v (val u/val v)=0:=Qc h1;refine⟨?_,hb⟩;unfold zbX;rw[hb,waV,wap];congr 1;have:=wcn (val u) (val v);rw[Qu]at this;omega
theorem zng{u v:List Nat}(hu:∀ z∈u,z<BB)(Vn:0<val v)(hB:val v<BB^u.length):zj0 (zbX u v (val u/val v+1)) v=pad u.length (val u%val v)/\zd6 u v (val u/val v+1)=1:=by
 have h1:=wd9 (val u) (val v);have h2:=Nat.lt_mul_div_succ (val u) Vn;rw[Qu]at h2;have hb:zd6 u v (val u/val v+1)=1:=Qb (by omega);refine⟨?_,hb⟩;have hm:=wcn (val u) (val v);rw[Qu]at hm;have hr:=waw (val u) Vn;have he:(val u/val v+1)*val v=val u/val v*val v+val v:=by rw[war,wcS]
 unfold zj0 zbX;rw[hb,wai,zdR,zlF (by omega)];congr 1;rw[show val u+BB^u.length-(val u/val v+1)*val v+val v=val u%val v+BB^u.length by omega,Nat.add_mod_right,wbv (by omega)]
theorem zsm(A u B v:List Nat)(n:Nat)(hl:(A++u++B).length<10000000000000)(hu:∀ z∈u,z<BB)(hv:∀ z∈v,z<BB)(Wk:u.length=n+3)(WE:v.length=n+2)(Y1:val u<BB*val v)(h1:v[n+1]≠0) :
  Ze prog 177 [.one (.vec PIN 1 A.length u.length),aN v] (Yv PIN (cN (A++u++B))) (litI .u32 (val u/val v:Nat)) (Yv PIN (cN (A++pad u.length (val u%val v)++B))):=by
 refine zih QB call177 func177 rfl ntmps177 results177 (by simp) (by decide) ?_ ?_ ?_
 .exact zeq rfl
 .exact za6
 have Y4:(A++u++B).length=A.length+(n+3)+B.length:=by simp[Wk];omega
 have k:=zu9 hu hv Wk WE Y1 h1;have PT:=hu u[n] (Qf _);have PU:=hu u[n+1] (Qf _);have PV:=hu u[n+2] (Qf _);have Fd:=hv v[n] (Qf _);have PW:=hv v[n+1] (Qf _);simp only[BB]at PT PU PV Fd PW;have hw:∀ i,i<n+3->A.length+i<(A++(u++B)).length:=fun i hi=>by simp[Wk];omega
 have hg:∀ i (hi:i<n+3),(A++(u++B))[A.length+i]'(hw i hi)=u[i]:=fun i hi=>by
  rw[wbH (by omega)];simp only[wdq];rw[wby]
 have c0:=za0 (hw n (by omega));have c1:=za0 (hw (n+1) (by omega));have c2:=za0 (hw (n+2) (by omega));rw[hg _ (by omega)]at c0 c1 c2;have et:(u[n+2]:Int)*1000000000+(u[n+1]:Int)=((u[n+2]*BB+u[n+1]:Nat):Int):=by simp only[BB];omega
 have WP:u[n+2]*BB+u[n+1]<1000000000000000000:=by simp only[BB];omega
 generalize hT:u[n+2]*BB+u[n+1]=top at *
 have PX:QP Zr v n=Zr v[n]:=Q8 (by omega);have Ln:QP Zr v (n+1)=Zr v[n+1]:=Q8 (by omega);have Ut:=k.start;have Wz:=k.big;have Vt:=k.v1;generalize KU:v[n+1]=v1 at *
 generalize WR:v[n]=v2 at *
 generalize XH:u[n]=u2 at *
 generalize UI:u[n+1]=u1 at *
 generalize Rl:u[n+2]=u0 at *
 rw[<-WE]at c2;obtain⟨m1,XK⟩:∃ m1,m1=n+1:=⟨_,rfl⟩
 rw[<-XK]at c1 Ln;have j1:(v.length:Int)-1=(m1:Int):=by omega
 have j2:(v.length:Int)-2=(n:Int):=by omega
 (iterate 3((try simp only[go_sem]);try simp(disch:=omega)only[Q4,QC,QD,Q8]))
 refine Q3 0 rfl ?_
 (iterate 3((try simp only[go_sem,j1,c1,c2]);try simp(disch:=omega)only[Q4,QC,et]))
 refine⟨⟨by omega,by omega⟩,⟨by omega,by omega⟩,Q3 0 rfl ?_⟩;have HT:top/v1*v1+top%v1=top:=by rw[Qu];exact wcn top v1
 have Vd:top/v1<=top:=wb3 _ _;have Jw:top%v1<=top:=Nat.mod_le _ _;have eq1:Int.tdiv (top:Int) (v1:Int)=((top/v1:Nat):Int):=zrd;have er1:Int.tmod (top:Int) (v1:Int)=((top%v1:Nat):Int):=zrc;generalize top/v1=q0 at *
 generalize top%v1=r0 at *
 have K7:v[m1]'(by omega)=v1:=by subst XK;exact KU
 (iterate 3((try simp only[go_sem,j1,K7]);try simp(disch:=omega)only[Q4,QC,Q8,eq1,er1]))
 refine⟨⟨by omega,by omega⟩,fun _=>by omega,⟨by omega,by omega⟩,fun _=>by omega,?_⟩;refine QJ (fun p:Nat×Nat=>stL 87 [(0,.one (.vec PIN 1 A.length u.length)),(1,aN v),(5,litI .i64 v.length),(7,litI .u64 p.1),(8,litI .u64 p.2)] [(PIN,cN (A++(u++B)))])
  (fun p=>p.1*v1+p.2=top/\val u/val v<=p.1) (fun p=>p.1) (q0,r0) ?_ ⟨HT,Ut⟩ ?_
 .refine Q6 rfl ?_ ?_ rfl ?_<;>simp only[go_sem,QF]<;>simp
 .rintro⟨q,r⟩ ⟨G0,hQ⟩
  simp only at G0 hQ ⊢;have Tj:q*1<=q*v1:=waq _ Vt;by_cases Vs:(1000000000:Int)<=(q:Int)
  .have PY:q<=top:=by omega
   (iterate 3((try simp only[go_sem]);try simp(disch:=omega)only[Q4,QC,QD,Q8,Vs]))
   refine Q3 0 rfl ?_
   (iterate 3((try simp only[go_sem,Vs]);try simp(disch:=omega)only[Q4,QC,Q8]))
   obtain⟨p,hp⟩:∃ p,p+1=q:=⟨q-1,by omega⟩
   have ep:(q:Int)-1=(p:Int):=by omega
   have er:(r:Int)+(v1:Int)=((r+v1:Nat):Int):=by omega
   have NP:p*v1+(r+v1)=top:=by rw[<-G0,<-hp,war];omega
   (iterate 3((try simp only[go_sem,ep,j1,K7]);try simp(disch:=omega)only[QC,er]))
   refine⟨⟨by omega,by omega⟩,(p,r+v1),⟨NP,by generalize val u/val v=Q at *;simp only[BB]at Wz;omega⟩,(by show p<q;omega),?_⟩;refine Q6 rfl ?_ ?_ rfl ?_<;>(iterate 3((try simp only[go_sem,QF]);try simp(disch:=omega)only[Q4,QC,QD,Q8,QF,ep,er]))<;>simp
  .have K3:q<BB:=by simp only[BB];omega
   by_cases Uo:(r:Int)<1000000000
   .have WS:q*v2<=999999999*999999999:=wax (by omega) (by omega)
    have eqv:(q:Int)*(v2:Int)=((q*v2:Nat):Int):=by omega
    have DZ:v[n]'(by omega)=v2:=WR
    (iterate 3((try simp only[go_sem]);try simp(disch:=omega)only[Q4,QC,QD,Q8,Vs,Uo]))
    refine Q3 0 rfl ?_
    (iterate 3((try simp only[go_sem,Vs,Uo,j2,DZ,c0]);try simp(disch:=omega)only[Q4,QC,Q8,eqv]))
    refine⟨⟨by omega,by omega⟩,⟨by omega,by omega⟩,QI (fun hc=>?_) (fun hc=>?_)⟩
    .have PZ:=k.less G0 (show r*BB+u2<q*v2 by simp only[BB];omega)
     have Kx:q≠0:=by rintro rfl;simp at hc;omega
     obtain⟨p,hp⟩:∃ p,p+1=q:=⟨q-1,by omega⟩
     have ep:(q:Int)-1=(p:Int):=by omega
     have er:(r:Int)+(v1:Int)=((r+v1:Nat):Int):=by omega
     have NP:p*v1+(r+v1)=top:=by rw[<-G0,<-hp,war];omega
     (iterate 3((try simp only[go_sem,ep,j1,K7]);try simp(disch:=omega)only[Q4,QC,Q8,er]))
     refine⟨⟨by omega,by omega⟩,(p,r+v1),⟨NP,by generalize val u/val v=Q at *;omega⟩,(by show p<q;omega),?_⟩;refine Q6 rfl ?_ ?_ rfl ?_<;>(iterate 3((try simp only[go_sem,QF]);try simp(disch:=omega)only[Q4,QC,QD,Q8,QF,ep,er]))<;>simp
    ·(iterate 3((try simp only[go_sem]);try simp(disch:=omega)only[Q4,QC,QD,Q8]))
     have Y9:=k.done G0 K3 (fun _=>by simp only[BB];omega);have Vn:=k.pos.2;have Ea:val v<BB^u.length:=wbf (Yu hv) (waW (by decide) (by omega));refine ze1 PIN (by decide) (znc A u B v q (by rw[Y4];omega) hu hv K3 (by omega)) (by simp only[go_sem]<;>rfl) (by simp only[go_sem]<;>rfl) (zeq rfl) za6 za6 ?_;have XC:q=val u/val v\/q=val u/val v+1:=by generalize val u/val v=Q at *;omega
     rcases XC with hc|hc
     .have hd:=zoF Vn Ea
      rw[<-hc]at hd ⊢;rw[hd.1,hd.2]
      (iterate 3((try simp only[go_sem]);try simp(disch:=omega)only[QD]))
     .have hd:=zng hu Vn Ea
      rw[<-hc]at hd;have Np:=hd.2;have Kg:=hd.1;rw[Np];have ep:(q:Int)-1=((val u/val v:Nat):Int):=by generalize val u/val v=Q at *;omega
      generalize val u/val v=Q at *
      (iterate 3((try simp only[go_sem]);try simp(disch:=omega)only[Q4,QC,QD,Q8]))
      refine ze1 PIN (by decide) (znp A (zbX u v q) B v (by simp only[Qj,zbX,zdR]at hl ⊢;omega) zjE hv (by simp only[zbX,zdR];omega)) (by simp only[go_sem]<;>rfl) (by simp only[go_sem,zbX,zdR]<;>rfl) (zeq rfl) za6 za6 ?_;rw[Kg]
      (iterate 3((try simp only[go_sem,ep]);try simp(disch:=omega)only[QC,QD]))
   ·(iterate 3((try simp only[go_sem]);try simp(disch:=omega)only[Q4,QC,QD,Q8,Vs,Uo]))
    refine Q3 0 rfl ?_
    (iterate 3((try simp only[go_sem,Vs,Uo]);try simp(disch:=omega)only[Q4,QC,QD,Q8,Vs,Uo]))
    have Y9:=k.done G0 K3 (fun h=>Qn h (by simp only[BB];omega));have Vn:=k.pos.2;have Ea:val v<BB^u.length:=wbf (Yu hv) (waW (by decide) (by omega));refine ze1 PIN (by decide) (znc A u B v q (by rw[Y4];omega) hu hv K3 (by omega)) (by simp only[go_sem]<;>rfl) (by simp only[go_sem]<;>rfl) (zeq rfl) za6 za6 ?_;have XC:q=val u/val v\/q=val u/val v+1:=by generalize val u/val v=Q at *;omega
    rcases XC with hc|hc
    .have hd:=zoF Vn Ea
     rw[<-hc]at hd ⊢;rw[hd.1,hd.2]
     (iterate 3((try simp only[go_sem]);try simp(disch:=omega)only[QD]))
    .have hd:=zng hu Vn Ea
     rw[<-hc]at hd;have Np:=hd.2;have Kg:=hd.1;rw[Np];have ep:(q:Int)-1=((val u/val v:Nat):Int):=by generalize val u/val v=Q at *;omega
     generalize val u/val v=Q at *
     (iterate 3((try simp only[go_sem]);try simp(disch:=omega)only[Q4,QC,QD,Q8]))
     refine ze1 PIN (by decide) (znp A (zbX u v q) B v (by simp only[Qj,zbX,zdR]at hl ⊢;omega) zjE hv (by simp only[zbX,zdR];omega)) (by simp only[go_sem]<;>rfl) (by simp only[go_sem,zbX,zdR]<;>rfl) (zeq rfl) za6 za6 ?_;rw[Kg]
     (iterate 3((try simp only[go_sem,ep]);try simp(disch:=omega)only[QC,QD]))
structure DivI(X V N:Nat)(n k:Nat)(qs U:List Nat):Prop where
 ul:U.length=N
 u:∀ z∈U,z<BB
 q:∀ z∈qs,z<BB
 e:BB^k*val qs*V+val U=X
 lt:val (U.drop k)<V
 fit:k+n+2<=N
section
variable {X V N n j:Nat} {qs U:List Nat}
theorem DivI.part(h:DivI X V N n (j+1) qs U)(hV:V<BB^(n+2)):∃ A u B,U=A++u++B/\A.length=j/\u.length=n+3/\val u<BB*V/\val B=0/\U=A++(u++B)/\(∀ z∈u,z<BB):=by
 have hf:=h.fit;have hl:=h.ul;have hj:j<U.length:=by omega
 refine⟨U.take j,(U.drop j).take (n+3),(U.drop j).drop (n+3),?_,?_,?_,?_,?_,?_,?_⟩
 .rw[waN,wb6,wb6]
 .rw[waB];omega
 .rw[waB,wef];omega
 .rw[waD hj,wcZ]
  simp only[val];have h1:=h.u _ (Qf hj);have h2:val ((U.drop (j+1)).take (n+2))<=val (U.drop (j+1)):=by
   conv=>rhs;rw[<-wb6 (n+2) (U.drop (j+1)),za2]
   omega
  have h3:=h.lt;have h4:BB*(val ((U.drop (j+1)).take (n+2))+1)<=BB*V:=waq _ (by omega);rw[wae]at h4;omega
 .have h3:=h.lt
  rw[<-wb6 (n+2) (U.drop (j+1)),za2,waB,wef,wbx (by omega),wcB]at h3;rw[wcB,show j+(n+3)=j+1+(n+2) by omega];rcases wce (val (U.drop (j+1+(n+2))))with h0|h0
  .exact h0
  .have:BB^(n+2)*1<=BB^(n+2)*val (U.drop (j+1+(n+2))):=waq _ h0
   omega
 .rw[wb6,wb6]
 .exact fun z hz=>h.u z (wed (waU hz))
theorem DivI.next{A u B:List Nat}(h:DivI X V N n (j+1) qs (A++u++B))(hV:V<BB^(n+2))(Fd:0<V)(hA:A.length=j)(hu:u.length=n+3)(Y1:val u<BB*V)(hB:val B=0) :
  DivI X V N n j (val u/V::qs) (A++pad u.length (val u%V)++B):=by
 have hr:=waw (val u) Fd;have hp:BB^(n+2)<=BB^(n+3):=waW (by decide) (by omega);have Gs:val (pad u.length (val u%V))=val u%V:=zlF (by rw[hu];omega);refine⟨?_,?_,?_,?_,?_,?_⟩
 .have:=h.ul;simpa[zdR]using this
 .intro z hz
  simp only[wao]at hz;rcases hz with(hz|hz)|hz
  .exact h.u z (by simp[hz])
  .exact zjE z hz
  .exact h.u z (by simp[hz])
 .intro z hz
  rcases wad.1 hz with rfl|hz
  .rw[wdd Fd];exact Y1
  .exact h.q z hz
 .have he:=h.e
  rw[za2,za2,hB,waV,wap,hA]at he ⊢;rw[Gs,<-he];have hd:=wcn (val u) V;have e1:=congrArg (BB^j*·) hd;simp only[wae]at e1;simp only[val];have e2:BB^j*(val u/V+BB*val qs)*V=BB^j*(V*(val u/V))+BB^(j+1)*val qs*V:=by
   rw[wae,war,waJ,waf,Qu (val u/V),waf (BB^j) BB]
  rw[e2];omega
 .rw[waN,<-hA,List.drop_left,za2,Gs,hB]
  simpa using hr
 .have:=h.fit;omega
end
theorem zy7{y:List Nat}{n:Nat}(hy:IsN y)(hl:y.length=n+2):∃ d,d=1000000000/(y[n+1]+1)/\1<=d/\d<BB/\(dig (val y*d)).length=n+2/\BB^(n+1)<=val y/\val y*d<BB^(n+2):=by
 have h1:=hy.1 y[n+1] (Qf _);have h2:=zqF hy (by intro e;rw[e]at hl;simp at hl);rw[hl,show n+2-1=n+1 from rfl]at h2;have h0:y[n+1]≠0:=by
  have:=hy.2;rw[wc3,wab (by omega)]at this;simpa[hl]using this
 refine⟨_,rfl,?_,?_,?_,h2,?_⟩
 .rw[wdj (by omega)];simp only[BB]at h1;omega
 .exact wbV (Nat.div_le_div_left (show 2<=y[n+1]+1 by omega) (by decide)) (by decide)
 all_goals
  have h3:1<=1000000000/(y[n+1]+1):=by rw[wdj (by omega)];simp only[BB]at h1;omega
  have h4:(y[n+1]+1)*(1000000000/(y[n+1]+1))<=BB:=Nat.mul_div_le _ _;generalize 1000000000/(y[n+1]+1)=d at *
  have h5:val y<BB^(n+1)*(y[n+1]+1):=by
   have h6:=ze0 (xs:=y) (i:=n+1) (by omega);have h7:=Yu (xs:=y.take (n+1)) fun z hz=>hy.1 z (waU hz)
   rw[waB,wbx (by omega)]at h7;rw[wdA (by omega)]at h6;simp only[val,waV,wap]at h6;rw[wae];omega
  have h8:val y*d<BB^(n+2):=by
   have h9:val y*d<BB^(n+1)*(y[n+1]+1)*d:=wdv h5 h3;rw[waf]at h9;exact wbf h9 (by rw[waJ BB (n+1)];exact waq _ h4)
 .have Wh:=zaz h8
  rcases wau (dig (val y*d)).length (n+2)with h|h
  .exfalso
   have HF:=Yu (zcQ (val y*d));rw[zaX]at HF;have HG:BB^(dig (val y*d)).length<=BB^(n+1):=waW (by decide) (by omega);have HH:val y*1<=val y*d:=waq _ h3;omega
  .omega
 .exact h8
theorem ziJ(a b:List Nat)(ha:a.length<1000000000000)(hb:b.length<1000000000000):Q7 prog 168 [tN a,tN b] (.tup [tN (dig (vN a/vN b)),tN (dig (vN a%vN b))]):=by
 refine QH QB call168 func168 rfl ntmps168 results168 (by simp) (by decide) ?_;simp only[go_sem];refine Q2 (zct a (by omega)) rfl ?_;simp only[go_sem];refine Q2 (zct b (by omega)) rfl ?_;have UG:=zam a;have VS:=zam b;have hX:=zaf a;have hY:=zaf b;have eA:vN (held a)=vN a:=by rw[<-zgC,Zk]
 have eB:vN (held b)=vN b:=by rw[<-zgC,Zk]
 have eA':vN a=val (held a):=rfl;have eB':vN b=val (held b):=rfl;have DB:=zf5 (held a) (held b) (by omega) (by omega);have Kz:=fun d hd=>ziw (held b) d (by omega) hd
 have K0:=fun d hd=>ztj (held a) d (by omega) hd
 rw[eA,eB]at DB;rw[eB]at Kz;rw[eA]at K0;rw[eA',eB']at *
 clear eA eB eA' eB';generalize held a=x at *
 generalize held b=y at *
 have hx:=hX.1;have hy:=hY.1;have Jm:=zpe x (by omega);by_cases XH:y=[]
 .subst XH
  simp only[go_sem];refine Q2 Jm rfl ?_;simp only[go_sem];rw[show val []=0 from rfl,Nat.div_zero,Nat.mod_zero,Zg,hX.trimZ];exact zao zcA Yk
 have Fq:0<y.length:=wbc.2 XH;have UI:¬((y.length:Int)=0):=by omega
 simp only[go_sem,UI];refine Q2 DB rfl ?_;by_cases Y1:val x<val y
 .have ND:Za (val x) (val y) = -1:=by unfold Za;rw[Qc (by omega)]
  rw[ND];simp only[go_sem];refine Q2 Jm rfl ?_;simp only[go_sem];rw[wbp Y1,wbv Y1,Zg,hX.trimZ];exact zao zcA Yk
 have ND:¬(Za (val x) (val y)<0):=by unfold Za;rw[Qb (by omega)];split<;>omega
 simp only[go_sem,ND];by_cases Rl:y.length=1
 .obtain⟨y0,rfl⟩:∃ y0,y=[y0]:=by
   match y,Rl with
   |[y0],_=>exact⟨y0,rfl⟩
  have DC:=hy y0 (by simp);have hne:y0≠0:=by have:=hY.2;simpa using this
  have Y5:QP Zr [y0] 0=Zr y0:=Q8 (by simp);have KV:val x%y0<y0:=waw _ (by omega);have Vn:val [y0]=y0:=by simp[val]
  rw[Vn];have EW:=zn3 x y0 (by omega) hx (by omega) DC;simp only[BB]at DC;generalize val x%y0=r at *
  generalize val x/y0=q at *
  (iterate 3((try simp only[go_sem,Y5]);try simp(disch:=omega)only[Q4,QC,QD,Q8,Y5]))
  refine Q2 EW rfl ?_
  (iterate 3((try simp only[go_sem]);try simp(disch:=omega)only[QC]))
  refine Q2 (zi8 r (by omega)) rfl ?_;simp only[go_sem];exact zao Yk Yk
 have Mz:¬((y.length:Int)=1):=by omega
 obtain⟨n,hn⟩:∃ n,y.length=n+2:=⟨y.length-2,by omega⟩
 obtain⟨d,hd,Ui,VY,WE,HI,HJ⟩:=zy7 hY hn;obtain⟨m1,XK⟩:∃ m1,m1=n+1:=⟨_,rfl⟩
 have Rt:y[m1]'(by omega)=y[n+1]:=by subst XK;rfl
 have WP:=hy _ (Qf (show n+1<y.length by omega));generalize y[n+1]=t at *
 have j1:(y.length:Int)-1=(m1:Int):=by omega
 have ed:Int.tdiv 1000000000 ((t:Int)+1)=(d:Int):=by rw[hd];rfl
 have HK:=WP;have HL:=VY;simp only[BB]at HK HL;have Dq:dig d=[d]:=by rw[zce (by omega),wbv VY,wbp VY,Zg]
 have M0:vN [d]=d:=by rw[<-Dq,Zk]
 have DD:val x≠0:=by
  have:0<BB^(n+1):=waR (by decide);omega
 have M8:=zi8 d (by omega);rw[Dq]at M8
 replace K0:=K0 [d] (by simp) DD (by rw[M0];omega)
 replace Kz:=Kz [d] (by simp)
 rw[M0]at K0 Kz;have DE:(dig (val x*d)).length<=x.length+1:=zaz (by
  have h1:=Yu hx;rw[waJ];exact Nat.mul_lt_mul_of_lt_of_le h1 (by omega) (by omega))
 have RR:=zcQ (val y*d);have RU:=zcQ (val x*d);have EO:=zjm (val y*d);have RH:=zaX (val y*d);have MA:=zaX (val x*d);obtain⟨v,hv⟩:∃ v,v=dig (val y*d):=⟨_,rfl⟩
 obtain⟨u,hu⟩:∃ u,u=dig (val x*d):=⟨_,rfl⟩
 rw[<-hv]at WE Kz RR EO RH;rw[<-hu]at K0 DE RU MA;clear hv hu
 (iterate 3((try simp only[go_sem,Mz,j1,Rt]);try simp(disch:=omega)only[Q4,QC,Q8,ed]))
 refine⟨⟨by omega,by omega⟩,fun _=>by omega,?_⟩;refine Q2 M8 rfl ?_
 (iterate 3((try simp only[go_sem]);try simp(disch:=omega)only[Q4,QC,QD,Q8]))
 refine ze7 59 (by decide) K0 rfl (by simp only[go_sem]) (by decide) ?_
 (iterate 3((try simp only[go_sem]);try simp(disch:=omega)only[Q4,QC,QD,Q8]))
 refine Q2 Kz rfl ?_;have eL:(x.length:Int)+1-(u.length:Int)=((x.length+1-u.length:Nat):Int):=by omega
 have HM:u.length+(x.length+1-u.length)=x.length+1:=by omega
 (iterate 3((try simp only[go_sem]);try simp(disch:=omega)only[Q4,eL]))
 refine zvL (Qd _) (sz:=1) (bytes:=4) (f:=Zr) 0 (L:=x.length+1-u.length) (by simp only[go_sem,zq4]<;>decide) Z3 u (by simp only[go_sem]<;>rfl) rfl (by simp only[go_sem]<;>rfl) (by simp only[go_sem]<;>rfl) (by rw[HM];omega) (by decide) ?_;rw[HM];generalize hU:u++List.replicate (x.length+1-u.length) 0=U;have EX:U.length=x.length+1:=by rw[<-hU,Qj,List.length_replicate,HM]
 have MB:val U=val x*d:=by rw[<-hU,za2,zkd,MA];simp
 have Pu:∀ z∈U,z<BB:=fun z hz=>by
  rw[<-hU]at hz;rcases wao.1 hz with hz|hz
  .exact RU z hz
  .rw[wd0 hz];decide
 obtain⟨N,hN⟩:∃ N,N=x.length+1:=⟨_,rfl⟩
 obtain⟨m,hm⟩:∃ m,m=x.length-y.length+1:=⟨_,rfl⟩
 have Es:y.length<=x.length:=by
  rcases wau x.length y.length with h|h
  .exact Qn (zeV hX hY h) Y1
  .exact h
 have em:(x.length:Int)-(y.length:Int)+1=(m:Int):=by omega
 rw[<-hN];have DF:val v<BB^(n+2):=by rw[RH];exact HJ
 have RV:0<val v:=by
  rw[RH];have:0<BB^(n+1):=waR (by decide);exact wcK (by omega) (by omega)
 have Vt:v[n+1]≠0:=by
  have:=EO.2;rw[wc3,wab (by omega)]at this;simpa[WE]using this
 have Ut:DivI (val x*d) (val v) N n m [] U:=by
  refine⟨by omega,Pu,by simp,by rw[<-MB];simp[val],?_,by omega⟩;have h1:U=U.take m++U.drop m:=(wb6 m U).symm;have h2:=congrArg val h1;rw[za2,waB,wbx (by omega),MB]at h2;have h3:=Yu hx;have h4:val x*d<BB^x.length*d:=wdv h3 (by omega);have h5:BB^x.length*d<=BB^m*val v:=by
   rw[RH,show x.length=m+(n+1) by omega,wbl,waf];exact waq _ (wag _ HI)
  have h6:BB^m*val (U.drop m)<BB^m*val v:=by omega
  exact wdK h6
 (iterate 3((try simp only[go_sem]);try simp(disch:=omega)only[Q4,em]))
 refine⟨by omega,?_⟩;obtain⟨m',JR⟩:∃ m',m=m'+1:=⟨m-1,by omega⟩
 have em':(m:Int)-1=(m':Int):=by omega
 rw[JR]at Ut;refine QJ (fun p:Nat×List Nat×List Nat=>match p.1 with
   |0=>stL 110 [(8,aN [d]),(9,aN p.2.2),(10,aN v),(11,.one (.vec 77 1 0 m)),(12,litI .i64 (-1))] [(77,cN p.2.1)]
   |j+1=>stL 110 [(8,aN [d]),(9,.one (.vec 59 1 0 N)),(10,aN v),(11,.one (.vec 77 1 0 m)),(12,litI .i64 (j:Int))] [(59,cN p.2.2),(77,cN (List.replicate (j+1) 0++p.2.1))])
  (fun p=>p.1+p.2.1.length=m/\DivI (val x*d) (val v) N n p.1 p.2.1 p.2.2) (fun p=>p.1) (m'+1,[],U) ?_ ⟨by simp;omega,Ut⟩ ?_
 .refine Q6 rfl ?_ ?_ rfl ?_<;>(iterate 3((try simp only[go_sem,em',QF,zdP,wak]);try simp(disch:=omega)only[Q4,QC,QD,Q8,em,em',QF,zdP,wak]))<;>simp[JR]
 .rintro⟨k,qs,U⟩ ⟨KG,hs⟩
  simp only at KG hs ⊢;cases k with
  |succ j =>
   simp only;have Pv:=hs.fit;obtain⟨A,u,B,hU,hA,Wk,DG,HN,Pw,Px⟩:=hs.part DF;have EX:=hs.ul;rw[hU]at hs;have Y0:=hs.next DF RV hA Wk DG HN;rw[Pw]at EX ⊢;have MC:(A++u++B).length=N:=by rw[waN];exact EX
   have HO:=zsm A u B v n (by omega) Px RR Wk WE DG Vt;obtain⟨H,hH⟩:∃ H,H=j+v.length+1:=⟨_,rfl⟩
   have eH:(j:Int)+(v.length:Int)+1=(H:Int):=by omega
   have eHu:H-j=u.length:=by omega
   have K3:=Y0.q _ (wam ..);simp only[BB]at K3;generalize val u/val v=q at *
   have KJ:(0:Int)<=(j:Int):=by omega
   have hw:j<(List.replicate (j+1) 0++qs).length:=by simp;omega
   (iterate 3((try simp only[go_sem,KJ,eHu]);try simp(disch:=omega)only[Q4,eH,show(0:Int)<=(H:Int) by omega]))
   refine⟨⟨by omega,by omega,by omega⟩,?_⟩;refine ze1 59 (by decide) HO (by simp only[go_sem]<;>rfl) (by simp only[go_sem,hA]<;>rfl) (zeq rfl) za6 za6 ?_
   (iterate 3((try simp only[go_sem,KJ]);try simp(disch:=omega)only[Q4]))
   refine⟨by omega,by rw[zaY];omega,?_⟩;refine⟨(j,q::qs,A++pad u.length (val u%val v)++B),⟨by simp;omega,Y0⟩,waO j,?_⟩;cases j with
   |succ i =>
    have e:((i+1:Nat):Int)-1=(i:Int):=by omega
    have e':(i:Int)+1-1=(i:Int):=by omega
    refine Q6 rfl ?_ ?_ rfl ?_<;>(iterate 3((try simp only[go_sem,e',QF,zap hw,ze2]);try simp(disch:=omega)only[Q4,QC,QD,Q8,e,e',QF,zap hw,ze2]))<;>simp
   |zero =>
    refine GStep.trans (zbj (b:=59) (sz:=1) (len:=N) (x:=eN (A++(pad u.length (val u%val v)++B))) (by simp only[go_sem]<;>rfl) (by have h7:=Y0.ul;rw[waN]at h7;rw[<-h7];exact Yp Z3)) ?_;refine Q6 rfl ?_ ?_ rfl ?_<;>(iterate 3((try simp only[go_sem,QF]);try simp(disch:=omega)only[Q4,QC,QD,Q8,QF,zap hw,ze2]))<;>simp<;>rw[ztg]<;>rfl
  |zero =>
   simp only;have Vd:qs.length=m:=by omega
   have EX:=hs.ul;simp only[go_sem];have he:=hs.e;have Ru:=hs.lt;rw[wdD,wcS]at he;rw[wcf]at Ru;have Gs:0<val v:=RV;have hq:val qs=val x/val y:=by
    have h1:val x*d/val v=val qs:=by rw[<-he,Qu,wde Gs,wbp Ru,wap]
    rw[<-h1,RH,Nat.mul_div_mul_right _ _ (by omega)]
   have hr:val U=val x%val y*d:=by
    have h1:val x*d%val v=val U:=by rw[<-he,Qu,wdf,wbv Ru]
    rw[<-h1,RH,Nat.mul_mod_mul_right]
   have Py:=zcL hs.u;have WO:=zf0 U (by omega);rw[Py]at WO;have MD:(dig (val U)).length<=U.length:=zaz (Yu hs.u);have EW:=zn3 (dig (val U)) d (by omega) (zcQ _) (by omega) VY;rw[zaX,hr,Nat.mul_div_cancel _ (show 0<d by omega),<-hr]at EW;have Y5:QP Zr [d] 0=Zr d:=Q8 (by simp);have RN:=zcL hs.q;rw[hq]at RN;refine Q3 0 rfl ?_;simp only[go_sem];refine Q2 WO rfl ?_;simp only[go_sem,Y5];refine Q2 EW rfl ?_;simp only[go_sem];refine zcd 77 1 m rfl (zf0 qs (by omega)) (by simp only[go_sem]<;>rfl) (by rw[<-Vd];exact Yp Z3) ?_ ?_
   .simp only[go_sem]<;>rfl
   .simp only[go_sem]
    rw[RN];exact zao Yk Yk
end Go.Proofs.YtlgjjcmljmjenaaGreat
