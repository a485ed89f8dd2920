/- At every input the call answers true and leaves its arguments as they were; no conditions. -/
import Derived.Test.YtlgjjcmljmjenaaGreatZa
import Derived.Laws.Strings
set_option linter.unusedSimpArgs false
set_option linter.unusedVariables false
set_option maxRecDepth 100000
namespace Go.Abs
abbrev BB:Nat:=1000000000
def val:List Nat->Nat
 |[]=>0
 |x::l=>x+BB*val l
def dig(n:Nat):List Nat:=if h:n=0 then[]else n%BB::dig (n/BB)
termination_by n
decreasing_by exact wdG (wbN h) (by decide)
def IsN(xs:List Nat):Prop:=(∀ x∈xs,x<BB)/\xs.getLast?≠some 0
instance (xs:List Nat):Decidable (IsN xs):=by unfold IsN;exact inferInstance
def trimZ:List Nat->List Nat
 |[]=>[]
 |x::l=>if x=0/\trimZ l=[]then[]else x::trimZ l
def held(xs:List Nat):List Nat:=if IsN xs then xs else[]
def vN(xs:List Nat):Nat:=val (held xs)
theorem Zi:dig 0=[]:=by unfold dig;rfl
theorem zce{n:Nat}(h:n≠0):dig n=n%BB::dig (n/BB):=by rw[dig];rw[dif_neg h]
theorem za5(n:Nat):val (dig n)=n:=by
 induction n using Nat.strongRecOn with
 |_ n ih =>
  by_cases h:n=0
  .subst h;rw[Zi];rfl
  .rw[zce h,val,ih _ (wdG (wbN h) (by decide))]
   exact wck n BB
theorem Yt{n:Nat}:dig n=[]↔n=0:=by
 constructor
 .intro h;by_cases h0:n=0
  .exact h0
  .rw[zce h0]at h;cases h
 .rintro rfl;exact Zi
theorem zdd(n:Nat):∀ x∈dig n,x<BB:=by
 induction n using Nat.strongRecOn with
 |_ n ih =>
  by_cases h:n=0
  .subst h;rw[Zi];intro x hx;cases hx
  .rw[zce h]
   intro x hx;rcases wab.1 hx with rfl|hx
   .exact wav _ (by decide)
   .exact ih _ (wdG (wbN h) (by decide)) x hx
theorem zcH{xs:List Nat}(h:∀ x∈xs,x<BB):trimZ xs=dig (val xs):=by
 induction xs with
 |nil=>rw[val,Zi];rfl
 |cons x l ih =>
  have hx:=h x (by simp);have ih:=ih fun y hy=>h y (by simp[hy])
  unfold trimZ;rw[val,ih];by_cases hv:val l=0
  .rw[hv,Zi]
   by_cases WE:x=0
   .subst WE;simp[Zi]
   .rw[Qb (by simp[WE]),zce (by omega)]
    have e1:(x+BB*0)%BB=x:=by rw[waR,wap];exact wbr hx
    have e2:(x+BB*0)/BB=0:=by rw[waR,wap];exact wbm hx
    rw[e1,e2,Zi]
  .have hne:dig (val l)≠[]:=by rw[Ne,Yt];exact hv
   rw[Qb (by simp[hne])];rw[zce (n:=x+BB*val l) (by simp only[BB];omega)];have e1:(x+BB*val l)%BB=x:=by simp only[BB]at *;omega
   have e2:(x+BB*val l)/BB=val l:=by simp only[BB]at *;omega
   rw[e1,e2]
theorem zgW{xs:List Nat}(h:xs.getLast?≠some 0):trimZ xs=xs:=by
 induction xs with
 |nil=>rfl
 |cons x l ih =>
  unfold trimZ;cases l with
  |nil =>
   simp at h;rw[Qb (by simp[h])];rfl
  |cons y t =>
   have:(y::t).getLast?≠some 0:=by simpa using h
   rw[ih this,Qb (by simp)]
theorem zii{xs:List Nat}:trimZ (xs++[0])=trimZ xs:=by
 induction xs with
 |nil=>rfl
 |cons x l ih=>simp only[wb5,trimZ,ih]
theorem IsN.trimZ{xs:List Nat}(h:IsN xs):dig (val xs)=xs:=by rw[<-zcH h.1,zgW h.2]
theorem zvo(n:Nat):(dig n).getLast?≠some 0:=by
 induction n using Nat.strongRecOn with
 |_ n ih =>
  by_cases h:n=0
  .subst h;rw[Zi];simp
  .rw[zce h]
   have:=ih _ (wdG (wbN h) (by decide:1<BB));cases hd:dig (n/BB)with
   |nil =>
    rw[Yt]at hd;have:n<BB:=by rcases Nat.div_eq_zero_iff.1 hd with h1|h1<;>simp only[BB]at *<;>omega
    simp[wbr this,h]
   |cons y t=>rw[hd]at this;simpa using this
theorem zjb(n:Nat):IsN (dig n):=⟨zdd n,zvo n⟩
theorem zvp(n:Nat):held (dig n)=dig n:=Qc (zjb n)
theorem Zx(n:Nat):vN (dig n)=n:=by unfold vN;rw[zvp,za5]
theorem zag(xs:List Nat):IsN (held xs):=by
 unfold held;split
 .assumption
 .exact⟨fun x hx=>(by cases hx),by simp⟩
theorem zgu(xs:List Nat):dig (vN xs)=held xs:=(zag xs).trimZ
theorem IsN.inj{xs ys:List Nat}(h:IsN xs)(h':IsN ys)(e:val xs=val ys):xs=ys:=by rw[<-h.trimZ,<-h'.trimZ,e]
theorem za0(xs ys:List Nat):val (xs++ys)=val xs+BB^xs.length*val ys:=by
 induction xs with
 |nil=>simp[val]
 |cons x l ih =>
  simp only[wb5,val,ih,Qe,waP];rw[waf,<-wae,Qt BB (BB^l.length)];omega
theorem zab{xs:List Nat}(h:∀ x∈xs,x<BB):val xs<BB^xs.length:=by
 induction xs with
 |nil=>simp[val]
 |cons x l ih =>
  have hx:=h x (by simp);have:=ih fun y hy=>h y (by simp[hy])
  simp only[val,Qe,waP];have:BB*(val l+1)<=BB^l.length*BB:=by rw[Qt];exact wak _ this
  rw[waf]at this;simp only[BB]at *;omega
theorem zqL{xs:List Nat}(h:IsN xs)(hne:xs≠[]):BB^(xs.length-1)<=val xs:=by
 obtain⟨ys,y,rfl⟩:∃ ys y,xs=ys++[y]:=⟨xs.dropLast,xs.getLast hne,(List.dropLast_concat_getLast hne).symm⟩
 have hy:y≠0:=by intro e;subst e;exact h.2 (by simp)
 rw[za0];simp only[val,Qj,List.length_singleton,Nat.add_sub_cancel,waR,wap];have:BB^ys.length*1<=BB^ys.length*y:=waz _ (by omega);omega
theorem zia{xs:List Nat}(h:IsN xs):val xs=0↔xs=[]:=by
 constructor
 .intro e
  have:=h.trimZ;rw[e,Zi]at this;exact this.symm
 .rintro rfl;rfl
theorem zj1(n:Nat):val (List.replicate n 0)=0:=by
 induction n with
 |zero=>rfl
 |succ n ih=>simp[wbp,val,ih]
theorem zbJ{n k:Nat}(h:n<BB^k):(dig n).length<=k:=by
 induction k generalizing n with
 |zero=>have:n=0:=by simpa using h
        subst this;rw[Zi];simp
 |succ k ih =>
  by_cases h0:n=0
  .subst h0;rw[Zi];simp
  .rw[zce h0]
   simp only[Qe];have:n/BB<BB^k:=by rw[waP]at h;exact Nat.div_lt_of_lt_mul (by rw[Qt];exact h)
   have:=ih this;omega
theorem zan(xs:List Nat):(held xs).length<=xs.length:=by unfold held;split<;>simp
abbrev Mn:=Nat×Int
abbrev Fm:=List Mn×Int
def WM:Nat->List Mn->Prop
 |_,[]=>True
 |n,m::l=>n<=m.1/\m.2≠0/\WM (m.1+1) l
def WF(f:Fm):Prop:=WM 0 f.1
def mer:List Mn->List Mn->List Mn
 |[],l=>l
 |x::l,[]=>x::l
 |x::l,y::k=>if x.1<y.1 then x::mer l (y::k)else if y.1<x.1 then y::mer (x::l) k else if x.2+y.2=0 then mer l k else(x.1,x.2+y.2)::mer l k
 termination_by a b=>a.length+b.length
theorem zcD(l:List Mn):mer [] l=l:=by cases l<;>simp[mer]
theorem zc0(l:List Mn):mer l []=l:=by cases l<;>simp[mer]
theorem zao(x:Mn)(l:List Mn)(y:Mn)(k:List Mn):mer (x::l) (y::k)=if x.1<y.1 then x::mer l (y::k)else if y.1<x.1 then y::mer (x::l) k else if x.2+y.2=0 then mer l k else(x.1,x.2+y.2)::mer l k:=by rw[mer]
def QP(a b:Fm):Fm:=(mer a.1 b.1,a.2+b.2)
def scM(c:Int)(l:List Mn):List Mn:=l.map fun m=>(m.1,m.2*c)
def scF(a:Fm)(c:Int):Fm:=if c=0 then([],0)else(scM c a.1,a.2*c)
def Z7(v:Nat):Fm:=([(v,1)],0)
def Ze(k:Int):Fm:=([],k)
def coM:List Mn->Nat->Int
 |[],_=>0
 |m::l,v=>if m.1=v then m.2 else coM l v
def atM:List Mn->(Nat->Int)->Int
 |[],_=>0
 |m::l,p=>m.2*p m.1+atM l p
def atF(f:Fm)(p:Nat->Int):Int:=f.2+atM f.1 p
theorem WM.mono{l:List Mn}:∀ {n k:Nat},k<=n->WM n l->WM k l:=by
 cases l with
 |nil=>intros;trivial
 |cons m l=>intro n k h w;exact⟨Qn h w.1,w.2⟩
theorem WM.mem{l:List Mn}:∀ {n:Nat},WM n l->∀ m∈l,n<=m.1/\m.2≠0:=by
 induction l with
 |nil=>intro n _ m h;cases h
 |cons x l ih =>
  intro n w m h;rcases wab.1 h with rfl|h
  .exact⟨w.1,w.2.1⟩
  .have:=ih w.2.2 m h;exact⟨by have:=w.1;omega,this.2⟩
theorem zf6{l:List Mn}{n v:Nat}(w:WM n l)(h:v<n):coM l v=0:=by
 induction l generalizing n with
 |nil=>rfl
 |cons x l ih =>
  have h1:=w.1;rw[coM,Qb (by omega)];exact ih w.2.2 (by omega)
theorem zxL:∀ {a b:List Mn} {n:Nat},WM n a->WM n b->WM n (mer a b):=by
 intro a b
 induction a,b using mer.induct with
 |case1 l=>intro n _ hb;rwa[zcD]
 |case2 x l=>intro n ha _;rwa[zc0]
 |case3 x l y k h ih=>intro n ha hb;rw[zao,Qc h];exact⟨ha.1,ha.2.1,ih ha.2.2 ⟨by omega,hb.2⟩⟩
 |case4 x l y k h h2 ih=>intro n ha hb;rw[zao,Qb h,Qc h2];exact⟨hb.1,hb.2.1,ih ⟨by omega,ha.2⟩ hb.2.2⟩
 |case5 x l y k h h2 h3 ih =>
  intro n ha hb;rw[zao,Qb h,Qb h2,Qc h3];have e:x.1=y.1:=by omega
  exact(ih ha.2.2 (e▸hb.2.2)).mono (by have:=ha.1;omega)
 |case6 x l y k h h2 h3 ih =>
  intro n ha hb;rw[zao,Qb h,Qb h2,Qb h3];have e:x.1=y.1:=by omega
  exact⟨ha.1,h3,ih ha.2.2 (e▸hb.2.2)⟩
theorem zwa:∀ {a b:List Mn} {n:Nat},WM n a->WM n b->∀ v,coM (mer a b) v=coM a v+coM b v:=by
 intro a b
 induction a,b using mer.induct with
 |case1 l=>intro n _ hb v;rw[zcD,coM,wb3]
 |case2 x l=>intro n ha _ v;rw[zc0];show _=_+0;rw[wa9]
 |case3 x l y k h ih =>
  intro n ha hb v;rw[zao,Qc h];have i:=ih ha.2.2 (⟨by omega,hb.2⟩:WM (x.1+1) (y::k)) v;have z:x.1=v->coM (y::k) v=0:=fun e=>zf6 (n:=x.1+1) ⟨by omega,hb.2⟩ (by omega)
  rw[coM,i]
  conv=>rhs;rw[coM]
  split
  .rename_i e;rw[z e,wa9]
  .rfl
 |case4 x l y k h h2 ih =>
  intro n ha hb v;rw[zao,Qb h,Qc h2];have i:=ih (⟨by omega,ha.2⟩:WM (y.1+1) (x::l)) hb.2.2 v;have z:y.1=v->coM (x::l) v=0:=fun e=>zf6 (n:=y.1+1) ⟨by omega,ha.2⟩ (by omega)
  rw[coM,i,show coM (y::k) v=if y.1=v then y.2 else coM k v from rfl];split
  .rename_i e;rw[z e,wb3]
  .rfl
 |case5 x l y k h h2 h3 ih =>
  intro n ha hb v;rw[zao,Qb h,Qb h2,Qc h3];have e:x.1=y.1:=by omega
  rw[ih ha.2.2 (e▸hb.2.2) v,coM,coM,<-e];split
  .rename_i e2
   rw[zf6 ha.2.2 (by omega),zf6 hb.2.2 (by omega),h3];rfl
  .rfl
 |case6 x l y k h h2 h3 ih =>
  intro n ha hb v;rw[zao,Qb h,Qb h2,Qb h3];have e:x.1=y.1:=by omega
  rw[coM,ih ha.2.2 (e▸hb.2.2) v,show coM (x::l) v=if x.1=v then x.2 else coM l v from rfl,show coM (y::k) v=if y.1=v then y.2 else coM k v from rfl,<-e];split<;>rfl
theorem zwb:∀ {a b:List Mn} (p:Nat->Int),atM (mer a b) p=atM a p+atM b p:=by
 intro a b p
 induction a,b using mer.induct with
 |case1 l=>rw[zcD,atM,wb3]
 |case2 x l=>rw[zc0];show _=_+0;rw[wa9]
 |case3 x l y k h ih=>rw[zao,Qc h,atM,ih,atM,atM];omega
 |case4 x l y k h h2 ih=>rw[zao,Qb h,Qc h2,atM,ih,atM,atM];omega
 |case5 x l y k h h2 h3 ih =>
  rw[zao,Qb h,Qb h2,Qc h3,ih,atM,atM];have e:x.1=y.1:=by omega
  have:x.2*p x.1+y.2*p y.1=0:=by rw[e,<-wdg,h3,wbc]
  omega
 |case6 x l y k h h2 h3 ih =>
  rw[zao,Qb h,Qb h2,Qb h3,atM,ih,atM,atM];have e:x.1=y.1:=by omega
  show(x.2+y.2)*p x.1+_=_;have:(x.2+y.2)*p x.1=x.2*p x.1+y.2*p y.1:=by rw[<-e,wdg]
  omega
theorem zsy:∀ {a b:List Mn},(mer a b).length<=a.length+b.length:=by
 intro a b
 induction a,b using mer.induct with
 |case1 l=>rw[zcD];simp
 |case2 x l=>rw[zc0];simp
 |case3 x l y k h ih=>rw[zao,Qc h];simp only[Qe]at *;omega
 |case4 x l y k h h2 ih=>rw[zao,Qb h,Qc h2];simp only[Qe]at *;omega
 |case5 x l y k h h2 h3 ih=>rw[zao,Qb h,Qb h2,Qc h3];simp only[Qe]at *;omega
 |case6 x l y k h h2 h3 ih=>rw[zao,Qb h,Qb h2,Qb h3];simp only[Qe]at *;omega
theorem zld{p q:Mn->Prop}(hp:∀ m,p m->q m)(hs:∀ x y,p x->p y->x.1=y.1->q (x.1,x.2+y.2)):∀ {a b:List Mn},(∀ m∈a,p m)->(∀ m∈b,p m)->∀ m∈mer a b,q m:=by
 intro a b
 induction a,b using mer.induct with
 |case1 l=>intro _ hb m hm;rw[zcD]at hm;exact hp m (hb m hm)
 |case2 x l=>intro ha _ m hm;rw[zc0]at hm;exact hp m (ha m hm)
 |case3 x l y k h ih =>
  intro ha hb m hm;rw[zao,Qc h]at hm;rcases wab.1 hm with rfl|hm
  .exact hp _ (ha _ (wam ..))
  .exact ih (fun m h=>ha m (waj _ h)) hb m hm
 |case4 x l y k h h2 ih =>
  intro ha hb m hm;rw[zao,Qb h,Qc h2]at hm;rcases wab.1 hm with rfl|hm
  .exact hp _ (hb _ (wam ..))
  .exact ih ha (fun m h=>hb m (waj _ h)) m hm
 |case5 x l y k h h2 h3 ih =>
  intro ha hb m hm;rw[zao,Qb h,Qb h2,Qc h3]at hm;exact ih (fun m h=>ha m (waj _ h)) (fun m h=>hb m (waj _ h)) m hm
 |case6 x l y k h h2 h3 ih =>
  intro ha hb m hm;rw[zao,Qb h,Qb h2,Qb h3]at hm;rcases wab.1 hm with rfl|hm
  .exact hs x y (ha _ (wam ..)) (hb _ (wam ..)) (by omega)
  .exact ih (fun m h=>ha m (waj _ h)) (fun m h=>hb m (waj _ h)) m hm
theorem zxM{c:Int}(hc:c≠0):∀ {l:List Mn} {n:Nat},WM n l->WM n (scM c l):=by
 intro l
 induction l with
 |nil=>intros;trivial
 |cons x l ih=>intro n w;exact⟨w.1,wcN w.2.1 hc,ih w.2.2⟩
theorem zwc(c:Int)(l:List Mn)(v:Nat):coM (scM c l) v=coM l v*c:=by
 induction l with
 |nil=>show 0=0*c;rw[wbc]
 |cons x l ih =>
  show(if x.1=v then x.2*c else coM (scM c l) v)=(if x.1=v then x.2 else coM l v)*c;split
  .rfl
  .exact ih
theorem zwd(c:Int)(l:List Mn)(p:Nat->Int):atM (scM c l) p=atM l p*c:=by
 induction l with
 |nil=>show 0=0*c;rw[wbc]
 |cons x l ih =>
  show x.2*c*p x.1+atM (scM c l) p=(x.2*p x.1+atM l p)*c;rw[ih,wdg,wbP,waI c,<-wbP]
theorem zgn{a b:Fm}(ha:WF a)(hb:WF b):WF (QP a b):=zxL ha hb
theorem zbC{a:Fm}(ha:WF a)(c:Int):WF (scF a c):=by
 unfold scF;split
 .trivial
 .rename_i h;exact zxM h ha
theorem zjo(v:Nat):WF (Z7 v):=⟨Qk _,(by show(1:Int)≠0;decide),trivial⟩
theorem zej(k:Int):WF (Ze k):=trivial
theorem zdR(a b:Fm)(p:Nat->Int):atF (QP a b) p=atF a p+atF b p:=by
 unfold atF QP;rw[zwb];omega
theorem zcQ(a:Fm)(c:Int)(p:Nat->Int):atF (scF a c) p=atF a p*c:=by
 unfold scF;split
 .rename_i h;subst h;rw[waF];rfl
 .unfold atF;rw[zwd,wdg]
theorem zqi(v:Nat)(p:Nat->Int):atF (Z7 v) p=p v:=by
 show 0+(1*p v+0)=p v;omega
theorem zfX(k:Int)(p:Nat->Int):atF (Ze k) p=k:=by
 show k+0=k;omega
theorem zgo{a b:Fm}(ha:WF a)(hb:WF b)(v:Nat):coM (QP a b).1 v=coM a.1 v+coM b.1 v:=zwa ha hb v
theorem zhF(a:Fm)(c:Int)(v:Nat):coM (scF a c).1 v=coM a.1 v*c:=by
 unfold scF;split
 .rename_i h;subst h;rw[waF];rfl
 .exact zwc c a.1 v
theorem zxN(v u:Nat):coM (Z7 v).1 u=if v=u then 1 else 0:=rfl
theorem k_sc(a:Fm)(c:Int):(scF a c).2=a.2*c:=by
 unfold scF;split
 .rename_i h;subst h;rw[waF]
 .rfl
theorem zrQ(a:Fm):QP ([],0) a=a:=by unfold QP;rw[zcD,wb3]
theorem zmw(a:Fm):QP a ([],0)=a:=by unfold QP;rw[zc0,wa9]
theorem zu9{a b L H x:Int}(ha:0<a)(hb:0<b)(hx:a*x<=L+a-1)(hd:(a-1)*(b-1)<=a*H-b*L):b*x<=H:=by
 refine wcB.1 fun hn=>?_
 have h1:a*(H+1)<=a*(b*x):=wbT (by omega) (by omega);have h2:b*(a*x)<=b*(L+a-1):=wbT hx (by omega);have e1:a*(b*x)=b*(a*x):=wdA a b x;have e2:a*(H+1)=a*H+a:=by rw[wbQ,wbh]
 have e3:b*(L+a-1)=b*L+a*b-b:=by rw[wb8,wbQ,wbh,waI b a]
 have e4:(a-1)*(b-1)=a*b-a-b+1:=by rw[wdy,wb8,wbh,wcq];omega
 omega
theorem zr0{a b m L H x:Int}(ha:0<a)(hb:0<b)(hm:b<=m)(hx:b*x<=H)(hd:a*H-b*L<(a-1)*(b-1)):a*x-L<=(a*m-a-m)/m:=by
 have e4:(a-1)*(b-1)=a*b-a-b+1:=by rw[wdy,wb8,wbh,wcq];omega
 have h1:a*(b*x)<=a*H:=wbT hx (by omega);have e1:a*(b*x)=b*(a*x):=wdA a b x;generalize hi:a*x-L=i;have e2:b*(a*x)=b*i+b*L:=by rw[<-wbQ,<-hi];congr 1;omega
 have h2:a<=b*(a-i-1):=by
  have:b*(a-i-1)=a*b-b*i-b:=by rw[wb8,wb8,wbh,waI b a]
  omega
 have h3:0<a-i-1:=by
  refine Int.not_le.1 fun hn=>?_
  have:b*(a-i-1)<=b*0:=wbT hn (by omega);omega
 have h4:b*(a-i-1)<=m*(a-i-1):=wdB hm (by omega);have e5:m*(a-i-1)=a*m-i*m-m:=by rw[wb8,wb8,wbh,waI m a,waI m i]
 exact(Int.le_ediv_iff_mul_le (by omega)).2 (by omega)
def smQ(f:Nat->Rat):Nat->Rat
 |0=>0
 |n+1=>smQ f n+f n
theorem Yd{f g:Nat->Rat}:∀ {n:Nat},(∀ i,i<n->f i=g i)->smQ f n=smQ g n
 |0,_=>rfl
 |n+1,h=>by rw[smQ,smQ,Yd fun i hi=>h i (wbS hi),h n (waN n)]
theorem zen{f:Nat->Rat}:∀ {n:Nat},(∀ i,i<n->f i=0)->smQ f n=0
 |0,_=>rfl
 |n+1,h=>by rw[smQ,zen fun i hi=>h i (wbS hi),h n (waN n)];grind
theorem zho{f g:Nat->Rat}:∀ {n:Nat},smQ (fun i=>f i+g i) n=smQ f n+smQ g n
 |0=>by show(0:Rat)=0+0;grind
 |n+1=>by rw[smQ,smQ,smQ,zho];grind
theorem zcK{f:Nat->Rat}{c:Rat}:∀ {n:Nat},smQ (fun i=>c*f i) n=c*smQ f n
 |0=>by show(0:Rat)=c*0;grind
 |n+1=>by rw[smQ,smQ,zcK];grind
theorem zdE{f:Nat->Rat}{c:Nat}:∀ {n:Nat},c<n->smQ f n=smQ (fun j=>if j=c then 0 else f j) n+f c
 |0,h=>by omega
 |n+1,h=>by
  rw[smQ,smQ];by_cases e:c=n
  .subst e
   rw[Qc rfl,Yd (f:=fun j=>if j=c then 0 else f j) (g:=f) fun i hi=>Qb (by omega)];grind
  .rw[Qb (fun h=>e h.symm),zdE (f:=f) (c:=c) (by omega)];grind
theorem zfP{f:Nat->Rat}{c n:Nat}(hc:c<n)(h:∀ j,j<n->j≠c->f j=0):smQ f n=f c:=by
 rw[zdE hc,zen fun i hi=>?_]
 .grind
 .by_cases e:i=c
  .rw[Qc e]
  .rw[Qb e];exact h i hi e
theorem zki{f:Nat->Rat}:∀ {n:Nat},(∀ i,i<n->0<=f i)->0<=smQ f n
 |0,_=>by show(0:Rat)<=0;grind
 |n+1,h=>by
  have h1:=zki fun i hi=>h i (wbS hi)
  have h2:=h n (waN n);rw[smQ];grind
theorem zxx{f:Nat->Rat}{n c:Nat}(hc:c<n)(h:∀ i,i<n->0<=f i)(hp:0<f c):0<smQ f n:=by
 rw[zdE hc];have:=zki (f:=fun j=>if j=c then 0 else f j) (n:=n) fun i hi=>by
  show 0<=if i=c then(0:Rat)else f i
  split
  .grind
  .exact h i hi
 grind
theorem zk3{f:Nat->Nat->Rat}{m:Nat}:∀ {n:Nat},smQ (fun i=>smQ (fun j=>f i j) m) n=smQ (fun j=>smQ (fun i=>f i j) n) m
 |0=>(zen (f:=fun j=>smQ (fun i=>f i j) 0) fun _ _=>rfl).symm
 |n+1=>by
  rw[smQ,zk3,<-zho];exact Yd fun j _=>rfl
def ZH(p:Nat->Bool)(k:Nat->Nat):Nat->Option Nat
 |0=>none
 |i+1=>match ZH p k i with
  |none=>if p i then some i else none
  |some o=>if p i&&decide (k i<k o)then some i else some o
theorem ziE{p:Nat->Bool}{k:Nat->Nat}:∀ {n:Nat},ZH p k n=none->∀ i,i<n->p i=false
 |0,_,i,hi=>by omega
 |n+1,h,i,hi=>by
  rw[ZH]at h;cases e:ZH p k n with
  |none =>
   rw[e]at h;have h:(if p n then some n else none)=none:=h;by_cases e2:i=n
   .subst e2
    cases c:p i with
    |false=>rfl
    |true=>rw[c]at h;cases h
   .exact ziE e i (by omega)
  |some o =>
   rw[e]at h;have h:(if p n&&decide (k n<k o)then some n else some o)=none:=h;split at h<;>cases h
theorem ziF{p:Nat->Bool}{k:Nat->Nat}:∀ {n r:Nat},ZH p k n=some r->r<n/\p r=true/\∀ i,i<n->p i=true->k r<=k i
 |0,_,h=>by cases h
 |n+1,r,h=>by
  rw[ZH]at h;cases e:ZH p k n with
  |none =>
   rw[e]at h;have h:(if p n then some n else none)=some r:=h;split at h
   .rename_i hp
    cases h
    refine⟨waN _,hp,fun i hi Jd=>?_⟩;by_cases e2:i=n
    .subst e2;exact Qd _
    .have:=ziE e i (by omega);rw[this]at Jd;cases Jd
   .cases h
  |some o =>
   rw[e]at h;have h:(if p n&&decide (k n<k o)then some n else some o)=some r:=h;obtain⟨h1,h2,h3⟩:=ziF e;split at h
   .rename_i hp
    cases h
    rw[wag,way]at hp;refine⟨waN _,hp.1,fun i hi Jd=>?_⟩;by_cases e2:i=n
    .subst e2;exact Qd _
    .have:=h3 i (by omega) Jd;omega
   .rename_i hp
    cases h
    refine⟨by omega,h2,fun i hi Jd=>?_⟩;by_cases e2:i=n
    .subst e2
     rw[Jd,wbo,way]at hp;omega
    .exact h3 i (by omega) Jd
structure SX where
 n:Nat
 R:Nat
 rw:Nat->Nat
 cl:Nat->Nat
 a:Nat->Nat->Rat
 va:Nat->Rat
 mo:Nat->Rat
namespace SX
def ov(S:SX)(v:Nat):Rat:=if v<S.n then -1 else S.va v-S.mo (v-S.n)
def bad(S:SX)(i:Nat):Bool:=decide (S.n<=S.rw i)&&decide (0<S.ov (S.rw i))
def may(S:SX)(r c:Nat):Bool:=decide (0<S.a r c)||(decide (S.a r c<0)&&(decide (S.cl c<S.n)||decide (S.ov (S.cl c)<0)))
def broken(S:SX):Option Nat:=ZH S.bad S.rw S.R
def column(S:SX)(r:Nat):Option Nat:=ZH (S.may r) S.cl S.n
def trow(S:SX)(r c:Nat)(j:Nat):Rat:=if j=c then(S.a r c)⁻¹ else -(S.a r j*(S.a r c)⁻¹)
def ta(S:SX)(r c:Nat)(i j:Nat):Rat:=if i=r then S.trow r c j else if j=c then S.a i c*S.trow r c c else S.a i j+S.a i c*S.trow r c j
def by'(S:SX)(r c:Nat):Rat:=-(S.ov (S.rw r))*(S.a r c)⁻¹
def vrow(S:SX)(r c:Nat):Nat->Nat->Rat
 |0=>fun v=>if v=S.cl c then S.va v+S.by' r c else S.va v
 |i+1=>if i=r then S.vrow r c i else fun v=>if v=S.rw i then S.vrow r c i v+S.a i c*S.by' r c else S.vrow r c i v
def tva(S:SX)(r c:Nat):Nat->Rat:=fun v=>if v=S.rw r then S.mo (S.rw r-S.n)else S.vrow r c S.R v
def piv(S:SX)(r c:Nat):SX where
 n:=S.n
 R:=S.R
 rw:=fun i=>if i=r then S.cl c else S.rw i
 cl:=fun j=>if j=c then S.rw r else S.cl j
 a:=S.ta r c
 va:=S.tva r c
 mo:=S.mo
def step(S:SX):Option SX:=match S.broken with
 |none=>none
 |some r=>match S.column r with
  |none=>none
  |some c=>some (S.piv r c)
end SX
def zfK(A:Nat->Nat->Rat)(n R:Nat)(x:Nat->Rat):Prop:=∀ i,i<R->x (n+i)=smQ (fun j=>A i j*x j) n
structure InvX(A:Nat->Nat->Rat)(n R:Nat)(S:SX):Prop where
 en:S.n=n
 eR:S.R=R
 rlt:∀ i,i<R->S.rw i<n+R
 clt:∀ c,c<n->S.cl c<n+R
 rinj:∀ i j,i<R->j<R->S.rw i=S.rw j->i=j
 cinj:∀ i j,i<n->j<n->S.cl i=S.cl j->i=j
 dis:∀ i c,i<R->c<n->S.rw i≠S.cl c
 sur:∀ v,v<n+R->(∃ i,i<R/\S.rw i=v)\/(∃ c,c<n/\S.cl c=v)
 eqv:∀ x,zfK A n R x↔∀ i,i<R->x (S.rw i)=smQ (fun c=>S.a i c*x (S.cl c)) n
 val:zfK A n R S.va
 nb:∀ c,c<n->S.va (S.cl c)=if S.cl c<n then 0 else S.mo (S.cl c-n)
section
variable {A:Nat->Nat->Rat} {n R:Nat} {S:SX}
theorem zjl(h:InvX A n R S){r c:Nat}(hr:r<R)(hc:c<n):∀ i,i<=R->(∀ v,(∀ k,k<i->S.rw k≠v)->v≠S.cl c->S.vrow r c i v=S.va v)/\(S.vrow r c i (S.cl c)=S.va (S.cl c)+S.by' r c) /\
  (∀ k,k<R->k≠r->S.vrow r c i (S.rw k)=if k<i then S.va (S.rw k)+S.a k c*S.by' r c else S.va (S.rw k))/\S.vrow r c i (S.rw r)=S.va (S.rw r):=by
 intro i
 induction i with
 |zero =>
  intro _;refine⟨fun v _ hv=>?_,?_,fun k hk _=>?_,?_⟩
  .show(if v=S.cl c then _ else _)=_;rw[Qb hv]
  .show(if S.cl c=S.cl c then _ else _)=_;rw[Qc rfl]
  .show(if S.rw k=S.cl c then _ else _)=_;rw[Qb (h.dis k c hk hc),Qb (by omega)]
  .show(if S.rw r=S.cl c then _ else _)=_;rw[Qb (h.dis r c hr hc)]
 |succ i ih =>
  intro hi;obtain⟨h1,h2,h3,h4⟩:=ih (by omega);by_cases e:i=r
  .subst e
   have e0:S.vrow i c (i+1)=S.vrow i c i:=by show(if i=i then _ else _)=_;rw[Qc rfl]
   rw[e0];refine⟨fun v hv VD=>h1 v (fun k hk=>hv k (by omega)) VD,h2,fun k hk DX=>?_,h4⟩;rw[h3 k hk DX];by_cases c1:k<i
   .rw[Qc c1,Qc (by omega)]
   .rw[Qb c1,Qb (by omega)]
  .have e0:S.vrow r c (i+1)=fun v=>if v=S.rw i then S.vrow r c i v+S.a i c*S.by' r c else S.vrow r c i v:=by show(if i=r then _ else _)=_;rw[Qb e]
   rw[e0];refine⟨fun v hv VD=>?_,?_,fun k hk DX=>?_,?_⟩
   .show(if v=S.rw i then _ else _)=_
    rw[Qb (fun e=>hv i (by omega) e.symm)];exact h1 v (fun k hk=>hv k (by omega)) VD
   .show(if S.cl c=S.rw i then _ else _)=_
    rw[Qb (fun e=>h.dis i c (by omega) hc e.symm)];exact h2
   .show(if S.rw k=S.rw i then _ else _)=_
    by_cases c1:k=i
    .subst c1
     rw[Qc rfl,h3 k hk DX,Qb (by omega),Qc (by omega)]
    .rw[Qb (fun e=>c1 (h.rinj _ _ hk (by omega) e)),h3 k hk DX]
     by_cases c2:k<i
     .rw[Qc c2,Qc (by omega)]
     .rw[Qb c2,Qb (by omega)]
   .show(if S.rw r=S.rw i then _ else _)=_
    rw[Qb (fun e2=>e (h.rinj _ _ hr (by omega) e2).symm)];exact h4
theorem zyL(h:InvX A n R S){r c:Nat}(hr:r<R)(hc:c<n):S.tva r c (S.cl c)=S.va (S.cl c)+S.by' r c:=by
 show(if S.cl c=S.rw r then _ else _)=_;rw[Qb (fun e=>h.dis r c hr hc e.symm),h.eR];exact(zjl h hr hc R (Qd _)).2.1
theorem zp9(h:InvX A n R S){r c j:Nat}(hr:r<R)(hc:c<n)(hj:j<n)(Rz:j≠c):S.tva r c (S.cl j)=S.va (S.cl j):=by
 show(if S.cl j=S.rw r then _ else _)=_;rw[Qb (fun e=>h.dis r j hr hj e.symm),h.eR];exact(zjl h hr hc R (Qd _)).1 _ (fun k hk=>h.dis k j hk hj) (fun e=>Rz (h.cinj _ _ hj hc e))
theorem zq7(h:InvX A n R S){r c:Nat}:S.tva r c (S.rw r)=S.mo (S.rw r-S.n):=by
 show(if S.rw r=S.rw r then _ else _)=_;rw[Qc rfl]
theorem zxy(h:InvX A n R S){r c i:Nat}(hr:r<R)(hc:c<n)(hi:i<R)(Ey:i≠r):S.tva r c (S.rw i)=S.va (S.rw i)+S.a i c*S.by' r c:=by
 show(if S.rw i=S.rw r then _ else _)=_;rw[Qb (fun e=>Ey (h.rinj _ _ hi hr e)),h.eR,(zjl h hr hc R (Qd _)).2.2.1 i hi Ey,Qc hi]
theorem zeL(h:InvX A n R S){v:Nat}(hv:n<=v):S.ov v=S.va v-S.mo (v-n):=by
 unfold SX.ov;rw[h.en,Qb (by omega)]
theorem InvX.piv(h:InvX A n R S){r c:Nat}(hr:r<R)(hc:c<n)(ha:S.a r c≠0)(Kx:n<=S.rw r):InvX A n R (S.piv r c):=by
 have Yy:S.a r c*(S.a r c)⁻¹=1:=Rat.mul_inv_cancel _ ha;generalize hb:(S.a r c)⁻¹=b at Yy;have KB:∀ i,(S.piv r c).rw i=if i=r then S.cl c else S.rw i:=fun _=>rfl
 have Kz:∀ j,(S.piv r c).cl j=if j=c then S.rw r else S.cl j:=fun _=>rfl
 have VQ:∀ j,S.trow r c j=if j=c then b else -(S.a r j*b):=fun j=>by unfold SX.trow;rw[hb]
 have hs:∀ (x:Nat->Rat) i,i<R->smQ (fun j=>S.a i j*x (S.cl j)) n=smQ (fun j=>if j=c then 0 else S.a i j*x (S.cl j)) n+S.a i c*x (S.cl c):=fun x i _=>zdE hc
 have Js:∀ (x:Nat->Rat) i,smQ (fun j=>(S.piv r c).a i j*x ((S.piv r c).cl j)) n=smQ (fun j=>if j=c then 0 else(S.piv r c).a i j*x (S.cl j)) n+(S.piv r c).a i c*x (S.rw r):=fun x i=>by
  rw[zdE hc,Kz,Qc rfl];congr 1;exact Yd fun j _=>by
   by_cases e:j=c
   .rw[Qc e,Qc e]
   .rw[Qb e,Qb e,Kz,Qb e]
 have WL:∀ (x:Nat->Rat),smQ (fun j=>if j=c then 0 else(S.piv r c).a r j*x (S.cl j)) n = -b*smQ (fun j=>if j=c then 0 else S.a r j*x (S.cl j)) n:=fun x=>by
  rw[<-zcK];refine Yd fun j _=>?_
  by_cases e:j=c
  .rw[Qc e,Qc e];grind
  .rw[Qb e,Qb e]
   show S.ta r c r j*_=_;unfold SX.ta;rw[Qc rfl,VQ,Qb e];grind
 have MZ:(S.piv r c).a r c=b:=by show S.ta r c r c=b;unfold SX.ta;rw[Qc rfl,VQ,Qc rfl]
 have XG:∀ (x:Nat->Rat) i,i≠r->smQ (fun j=>if j=c then 0 else(S.piv r c).a i j*x (S.cl j)) n=smQ (fun j=>if j=c then 0 else S.a i j*x (S.cl j)) n + -(S.a i c*b)*smQ (fun j=>if j=c then 0 else S.a r j*x (S.cl j)) n:=fun x i hi=>by
  rw[<-zcK,<-zho];refine Yd fun j _=>?_
  by_cases e:j=c
  .rw[Qc e,Qc e,Qc e];grind
  .rw[Qb e,Qb e,Qb e]
   show S.ta r c i j*_=_;unfold SX.ta;rw[Qb hi,Qb e,VQ,Qb e];grind
 have GI:∀ i,i≠r->(S.piv r c).a i c=S.a i c*b:=fun i hi=>by show S.ta r c i c=_;unfold SX.ta;rw[Qb hi,Qc rfl,VQ,Qc rfl]
 refine⟨h.en,h.eR,fun i hi=>?_,fun j hj=>?_,fun i j hi hj e=>?_,fun i j hi hj e=>?_,fun i j hi hj e=>?_,fun v hv=>?_,fun x=>?_,?_,fun j hj=>?_⟩
 .rw[KB];split
  .exact h.clt c hc
  .exact h.rlt i hi
 .rw[Kz];split
  .exact h.rlt r hr
  .exact h.clt j hj
 .rw[KB,KB]at e
  split at e<;>split at e
  .omega
  .exact(h.dis j c hj hc e.symm).elim
  .exact(h.dis i c hi hc e).elim
  .exact h.rinj i j hi hj e
 .rw[Kz,Kz]at e
  split at e<;>split at e
  .omega
  .exact(h.dis r j hr hj e).elim
  .exact(h.dis r i hr hi e.symm).elim
  .exact h.cinj i j hi hj e
 .rw[KB,Kz]at e
  split at e<;>split at e
  .exact h.dis r c hr hc e.symm
  .rename_i h1 h2;exact h2 (h.cinj _ _ hc hj e).symm
  .rename_i h1 h2;exact h1 (h.rinj _ _ hi hr e)
  .exact h.dis i j hi hj e
 .rcases h.sur v hv with⟨i,hi,e⟩|⟨j,hj,e⟩
  .by_cases e2:i=r
   .subst e2;exact .inr ⟨c,hc,by rw[Kz,Qc rfl];exact e⟩
   .exact .inl ⟨i,hi,by rw[KB,Qb e2];exact e⟩
  .by_cases e2:j=c
   .subst e2;exact .inl ⟨r,hr,by rw[KB,Qc rfl];exact e⟩
   .exact .inr ⟨j,hj,by rw[Kz,Qb e2];exact e⟩
 .rw[h.eqv x]
  refine⟨fun hx i hi=>?_,fun hx i hi=>?_⟩
  .have h1:=hx r hr
   rw[hs x r hr]at h1;rw[Js x i];by_cases e:i=r
   .subst e
    rw[KB,Qc rfl,WL,MZ]
    grind
   .have h2:=hx i hi
    rw[hs x i hi]at h2;rw[KB,Qb e,XG x i e,GI i e]
    grind
  .have h1:=hx r hr
   rw[KB,Qc rfl,Js x r,WL,MZ]at h1;rw[hs x i hi];by_cases e:i=r
   .subst e
    grind
   .have h2:=hx i hi
    rw[KB,Qb e,Js x i,XG x i e,GI i e]at h2
    grind
 .rw[h.eqv]
  intro i hi;have hv:=(h.eqv S.va).1 h.val;show S.tva r c (S.rw i)=smQ (fun j=>S.a i j*S.tva r c (S.cl j)) n;rw[hs (S.tva r c) i hi,zyL h hr hc,Yd (f:=fun j=>if j=c then 0 else S.a i j*S.tva r c (S.cl j)) (g:=fun j=>if j=c then 0 else S.a i j*S.va (S.cl j)) fun j hj=>by
   by_cases e:j=c
   .rw[Qc e,Qc e]
   .rw[Qb e,Qb e,zp9 h hr hc hj e]]
  have h2:=hv i hi;rw[hs S.va i hi]at h2;by_cases e:i=r
  .subst e
   rw[zq7 h,h.en];have h3:=zeL h Kx;have h4:S.by' i c = -(S.ov (S.rw i))*b:=by unfold SX.by';rw[hb]
   grind
  .rw[zxy h hr hc hi e]
   grind
 .show S.tva r c ((S.piv r c).cl j)=if(S.piv r c).cl j<n then 0 else S.mo ((S.piv r c).cl j-n)
  rw[Kz];by_cases e:j=c
  .rw[Qc e,zq7 h,h.en,Qb (by omega)]
  .rw[Qb e,zp9 h hr hc hj e];exact h.nb j hj
end
theorem zlL:∀ (N:Nat) (f:Nat->Nat),(∀ i,i<=N->f i<N)->∃ i j,i<j/\j<=N/\f i=f j
 |0,f,h=>by have:=h 0 (Qd _);omega
 |N+1,f,h=>by
  by_cases hc:∃ i,i<=N/\f i=f (N+1)
  .obtain⟨i,hi,e⟩:=hc;exact⟨i,N+1,by omega,Qd _,e⟩
  .have hne:∀ i,i<=N->f i≠f (N+1):=fun i hi e=>hc ⟨i,hi,e⟩
   obtain⟨i,j,h1,h2,h3⟩:=zlL N (fun i=>if f i=N then f (N+1)else f i) fun i hi=>by
    have h4:=h i (by omega);have h5:=h (N+1) (Qd _);have h6:=hne i hi;split<;>omega
   refine⟨i,j,h1,by omega,?_⟩;have h4:=hne i (by omega);have h5:=hne j h2;have h3:(if f i=N then f (N+1)else f i)=(if f j=N then f (N+1)else f j):=h3;split at h3<;>split at h3<;>omega
def zaI(M:Nat)(s:Nat->Nat):Nat->Nat
 |0=>0
 |j+1=>zaI M s j+s j*M^j
theorem zhg{M:Nat}{s:Nat->Nat}:∀ {n:Nat},(∀ j,j<n->s j<M)->zaI M s n<M^n
 |0,_=>Nat.one_pos
 |n+1,h=>by
  have h1:=zhg fun j hj=>h j (wbS hj)
  have h2:=h n (waN n);have h3:(s n+1)*M^n<=M*M^n:=wak _ h2;rw[zaI,waP,Qt (M^n)];rw[waX]at h3;omega
theorem zkQ{M:Nat}{s t:Nat->Nat}:∀ {n:Nat},(∀ j,j<n->s j<M)->(∀ j,j<n->t j<M)->zaI M s n=zaI M t n->∀ j,j<n->s j=t j
 |0,_,_,_,j,hj=>by omega
 |n+1,hs,ht,h,j,hj=>by
  have h1:=zhg (n:=n) fun j hj=>hs j (wbS hj)
  have h2:=zhg (n:=n) fun j hj=>ht j (wbS hj)
  rw[zaI,zaI]at h;have hp:0<M^n:=by omega
  have e1:(zaI M s n+s n*M^n)/M^n=s n:=by rw[Nat.add_mul_div_right _ _ hp,wbm h1,waY]
  have e2:(zaI M t n+t n*M^n)/M^n=t n:=by rw[Nat.add_mul_div_right _ _ hp,wbm h2,waY]
  have e3:s n=t n:=by rw[<-e1,<-e2,h]
  by_cases e:j=n
  .rw[e,e3]
  .rw[e3]at h
   exact zkQ (n:=n) (fun j hj=>hs j (wbS hj)) (fun j hj=>ht j (wbS hj)) (by omega) j (by omega)
theorem zoh{b k:Nat}:∀ {m:Nat},zaI b (fun i=>k/b^i%b) m=k%b^m
 |0=>by rw[zaI,wdx,Nat.mod_one]
 |m+1=>by rw[zaI,zoh,Nat.mod_pow_succ,Qt (b^m)]
def smI(f:Nat->Int):Nat->Int
 |0=>0
 |n+1=>smI f n+f n
theorem Zm{f g:Nat->Int}:∀ {n:Nat},(∀ i,i<n->f i=g i)->smI f n=smI g n
 |0,_=>rfl
 |n+1,h=>by rw[smI,smI,Zm fun i hi=>h i (wbS hi),h n (waN n)]
theorem zfd{f g:Nat->Int}:∀ {n:Nat},smI (fun i=>f i-g i) n=smI f n-smI g n
 |0=>rfl
 |n+1=>by rw[smI,smI,smI,zfd];omega
theorem zgb{f:Nat->Int}{K:Nat}:∀ {n:Nat},(∀ i,i<n->(f i).natAbs<=K)->(smI f n).natAbs<=n*K
 |0,_=>by show(0:Int).natAbs<=_;simp
 |n+1,h=>by
  have h1:=zgb fun i hi=>h i (wbS hi)
  have h2:=h n (waN n);rw[smI,waX];omega
theorem zyh(n B:Nat)(w:Nat->Nat->Int)(hB:∀ i j,i<n+1->j<n->(w i j).natAbs<=B) :
  ∃ y:Nat->Int,(∃ i,i<n+1/\y i≠0)/\(∀ i,i<n+1->(y i).natAbs<=(2*((n+1)*B)+1)^n)/\∀ j,j<n->smI (fun i=>y i*w i j) (n+1)=0:=by
 obtain⟨Q,hQ⟩:∃ Q,Q=2*((n+1)*B)+1:=⟨_,rfl⟩
 obtain⟨H,hH⟩:∃ H,H=Q^n:=⟨_,rfl⟩
 have X5:1<=H:=by rw[hH];exact waZ (by omega)
 obtain⟨Z,hZ⟩:∃ Z,Z=(n+1)*(H*B):=⟨_,rfl⟩
 obtain⟨M,hM⟩:∃ M,M=2*Z+1:=⟨_,rfl⟩
 obtain⟨d,hd⟩:∃ d:Nat->Nat->Nat,d=fun k i=>k/(H+1)^i%(H+1):=⟨_,rfl⟩
 have Vn:∀ k i,d k i<=H:=fun k i=>by
  have:k/(H+1)^i%(H+1)<H+1:=wav _ (by omega);rw[hd];show k/(H+1)^i%(H+1)<=H;omega
 obtain⟨s,hs⟩:∃ s:Nat->Nat->Int,s=fun k j=>smI (fun i=>(d k i:Int)*w i j) (n+1):=⟨_,rfl⟩
 have Gi:∀ k j,j<n->(s k j).natAbs<=Z:=fun k j hj=>by
  have:=zgb (f:=fun i=>(d k i:Int)*w i j) (K:=H*B) (n:=n+1) fun i hi=>by
   rw[wbb,wbv];exact waB (Vn k i) (hB i j hi hj)
  rw[hs,hZ];exact this
 obtain⟨u,hu⟩:∃ u:Nat->Nat->Nat,u=fun k j=>(s k j+Z).toNat:=⟨_,rfl⟩
 have Wg:∀ k j,j<n->u k j<M:=fun k j hj=>by
  have:=Gi k j hj;rw[hu];show(s k j+Z).toNat<M;omega
 have OT:M<=Q*H:=by
  have e1:Q*H=2*Z+H:=by rw[hQ,hZ,waX];congr 1;rw[wae];congr 1;rw[wae];congr 1;exact Qt _ _
  omega
 have Jb:M^n<(H+1)^(n+1):=by
  have h1:M^n<=(Q*H)^n:=wcn OT n;rw[Nat.mul_pow,<-hH]at h1;have h2:H*H^n=H^(n+1):=by rw[waP,Qt]
  have h3:H^(n+1)<(H+1)^(n+1):=Nat.pow_lt_pow_left (waN H) (by omega);omega
 obtain⟨k,l,h1,h2,h3⟩:=zlL (M^n) (fun k=>zaI M (u k) n) fun k _=>zhg fun j hj=>Wg k j hj
 have Y4:=zkQ (fun j hj=>Wg k j hj) (fun j hj=>Wg l j hj) h3;refine⟨fun i=>(d l i:Int)-d k i,?_,fun i _=>?_,fun j hj=>?_⟩
 .by_cases hc:∃ i,i<n+1/\(d l i:Int)-d k i≠0
  .exact hc
  .exfalso
   have he:∀ i,i<n+1->d l i=d k i:=fun i hi=>by
    by_cases e:d l i=d k i
    .exact e
    .exact(hc ⟨i,hi,by omega⟩).elim
   have hk:∀ k,k<=M^n->zaI (H+1) (d k) (n+1)=k:=fun k hk=>by
    rw[hd];show zaI (H+1) (fun i=>k/(H+1)^i%(H+1)) (n+1)=k;rw[zoh,wbr (by omega)]
   have OU:∀ m,m<=n+1->zaI (H+1) (d l) m=zaI (H+1) (d k) m:=fun m=>by
    induction m with
    |zero=>intro _;rfl
    |succ m ih=>intro hm;rw[zaI,zaI,ih (by omega),he m (by omega)]
   have:=OU (n+1) (Qd _);rw[hk l h2,hk k (by omega)]at this;omega
 .have h4:=Vn l i
  have h5:=Vn k i;rw[<-hQ,<-hH];show((d l i:Int)-d k i).natAbs<=H;omega
 .have e1:smI (fun i=>((d l i:Int)-d k i)*w i j) (n+1)=s l j-s k j:=by
   rw[hs];show _=smI (fun i=>(d l i:Int)*w i j) (n+1)-smI (fun i=>(d k i:Int)*w i j) (n+1);rw[<-zfd];exact Zm fun i _=>wdy _ _ _
  rw[e1];have h4:=Y4 j hj;have h5:=Gi k j hj;have h6:=Gi l j hj;rw[hu]at h4;have h4:(s k j+Z).toNat=(s l j+Z).toNat:=h4;omega
theorem zcv{f:Nat->Int}:∀ {n:Nat},(∀ i,i<n->f i=0)->smI f n=0
 |0,_=>rfl
 |n+1,h=>by rw[smI,zcv fun i hi=>h i (by omega),h n (by omega)];rfl
theorem zfe{f g:Nat->Int}:∀ {n:Nat},smI (fun i=>f i+g i) n=smI f n+smI g n
 |0=>rfl
 |n+1=>by rw[smI,smI,smI,zfe];omega
theorem Yp{f:Nat->Int}{c:Int}:∀ {n:Nat},smI (fun i=>c*f i) n=c*smI f n
 |0=>(waF _).symm
 |n+1=>by rw[smI,smI,Yp,wbQ]
theorem ziD{f:Nat->Int}{c:Nat}:∀ {n:Nat},c<n->smI f n=smI (fun j=>if j=c then 0 else f j) n+f c
 |n+1,h=>by
  rcases was c n with hc|hc
  .rw[smI,ziD hc,smI,Qb (by omega)];omega
  .obtain rfl:c=n:=by omega
   rw[smI,smI,Qc rfl,Zm (g:=fun j=>if j=c then 0 else f j) fun i hi=>by rw[Qb (by omega)]];omega
theorem zca{f:Nat->Int}{c n:Nat}(hc:c<n)(h:∀ j,j<n->j≠c->f j=0):smI f n=f c:=by
 rw[ziD hc,zcv fun j hj=>by
  by_cases e:j=c
  .rw[Qc e]
  .rw[Qb e];exact h j hj e]
 omega
theorem ze2{f:Nat->Nat->Int}{m:Nat}:∀ {n:Nat},smI (fun i=>smI (fun j=>f i j) m) n=smI (fun j=>smI (fun i=>f i j) n) m
 |0=>(zcv fun j _=>rfl).symm
 |n+1=>by rw[smI,ze2,<-zfe];rfl
structure HX where
 n:Nat
 R:Nat
 h:Nat->Nat->Int
 u:Nat->Nat->Int
 v:Nat->Nat->Int
def swN(i j c:Nat):Nat:=if c=i then j else if c=j then i else c
namespace HX
def swap(S:HX)(i j:Nat):HX:=⟨S.n,S.R,fun r c=>S.h r (swN i j c),fun r c=>S.u r (swN i j c),fun r c=>S.v (swN i j r) c⟩
def turn(S:HX)(i:Nat):HX:=⟨S.n,S.R,fun r c=>if c=i then -(S.h r c)else S.h r c,fun r c=>if c=i then -(S.u r c)else S.u r c,fun r c=>if r=i then -(S.v r c)else S.v r c⟩
def less(S:HX)(i fr:Nat)(q:Int):HX:=⟨S.n,S.R,fun r c=>if c=fr then S.h r c-q*S.h r i else S.h r c,fun r c=>if c=fr then S.u r c-q*S.u r i else S.u r c,fun r c=>if r=i then S.v r c+q*S.v fr c else S.v r c⟩
end HX
structure InvH(a:Nat->Nat->Int)(n R:Nat)(S:HX):Prop where
 en:S.n=n
 eR:S.R=R
 hau:∀ r,r<R->∀ c,c<n->S.h r c=smI (fun k=>a r k*S.u k c) n
 uv:∀ i j,i<n->j<n->smI (fun k=>S.u i k*S.v k j) n=if i=j then 1 else 0
 vu:∀ i j,i<n->j<n->smI (fun k=>S.v i k*S.u k j) n=if i=j then 1 else 0
theorem zsp{f:Nat->Int}{c n:Nat}(h:∀ j,j<n->j≠c->f j=0)(h0:n<=c->f c=0):smI f n=f c:=by
 rcases was c n with hc|hc
 .exact zca hc h
 .rw[zcv fun j hj=>h j hj (by omega),h0 hc]
section
variable {a:Nat->Nat->Int} {n R:Nat} {S:HX}
theorem InvH.less(hI:InvH a n R S){i fr:Nat}(hi:i<n)(hf:fr<n)(hne:i≠fr)(q:Int):InvH a n R (S.less i fr q) where
 en:=hI.en
 eR:=hI.eR
 hau r hr c hc:=by
  show(if c=fr then S.h r c-q*S.h r i else S.h r c)=smI (fun k=>a r k*(if c=fr then S.u k c-q*S.u k i else S.u k c)) n;by_cases e:c=fr
  .rw[Qc e,hI.hau r hr c hc,hI.hau r hr i hi,<-Yp,<-zfd]
   exact Zm fun k _=>by rw[Qc e,wb8,wdA]
  .rw[Qb e,hI.hau r hr c hc]
   exact Zm fun k _=>by rw[Qb e]
 uv p j hp hj:=by
  rw[<-hI.uv p j hp hj];have e:∀ k,k<n->(S.less i fr q).u p k*(S.less i fr q).v k j=S.u p k*S.v k j+((if k=i then q*(S.u p i*S.v fr j)else 0)+(if k=fr then -(q*(S.u p i*S.v fr j))else 0)):=fun k _=>by
   show(if k=fr then S.u p k-q*S.u p i else S.u p k)*(if k=i then S.v k j+q*S.v fr j else S.v k j)=_;by_cases e1:k=i
   .subst e1
    rw[Qb hne,Qc rfl,Qc rfl,Qb hne,wbQ,wa9,wdA]
   .by_cases e2:k=fr
    .subst e2
     rw[Qc rfl,Qb e1,Qb e1,Qc rfl,wdy,wb3,wbP];omega
    .rw[Qb e2,Qb e1,Qb e1,Qb e2];omega
  rw[Zm e,zfe,zfe,zca (c:=i) hi fun k _ hk=>Qb hk,zca (c:=fr) hf fun k _ hk=>Qb hk,Qc rfl,Qc rfl];omega
 vu p j hp hj:=by
  have h1:=hI.vu p j hp hj;have h2:=hI.vu fr j hf hj;have h3:=hI.vu p i hp hi;have h4:=hI.vu fr i hf hi;have key:smI (fun k=>(S.less i fr q).v p k*(S.less i fr q).u k j) n
    = (if p=i then q else 0)*(smI (fun k=>S.v fr k*S.u k j) n-(if j=fr then q else 0)*smI (fun k=>S.v fr k*S.u k i) n)+(smI (fun k=>S.v p k*S.u k j) n-(if j=fr then q else 0)*smI (fun k=>S.v p k*S.u k i) n):=by
   rw[<-Yp,<-zfd,<-Yp,<-Yp,<-zfd,<-zfe];refine Zm fun k _=>?_
   show(if p=i then S.v p k+q*S.v fr k else S.v p k)*(if j=fr then S.u k j-q*S.u k i else S.u k j)=_;by_cases e1:p=i<;>by_cases e2:j=fr<;>simp only[e1,e2,↓reduceIte]<;>grind
  rw[key,h1,h2,h3,h4];by_cases e1:p=i<;>by_cases e2:j=fr<;>simp only[e1,e2,↓reduceIte]<;>(try split)<;>(try split)<;>(try split)<;>first|omega|grind
theorem zcg{i j c:Nat}(hi:i<n)(hj:j<n)(hc:c<n):swN i j c<n:=by unfold swN;split;exact hj;split;exact hi;exact hc
theorem zpZ{i j c d:Nat}(h:swN i j c=swN i j d):c=d:=by
 unfold swN at h
 repeat' split at h
 all_goals omega
theorem zyz{f:Nat->Int}{i j:Nat}(hi:i<n)(hj:j<n):smI (fun k=>f (swN i j k)) n=smI f n:=by
 by_cases e:i=j
 .subst e
  exact Zm fun k _=>by unfold swN;split<;>(try split)<;>first|rfl|(congr 1;omega)
 .have e1:swN i j i=j:=by unfold swN;rw[Qc rfl]
  have e2:swN i j j=i:=by unfold swN;rw[Qb (fun h=>e h.symm),Qc rfl]
  have split2:∀ g:Nat->Int,smI g n=smI (fun k=>if k=j then 0 else if k=i then 0 else g k) n+g j+g i:=fun g=>by
   rw[ziD hi,ziD (f:=fun k=>if k=i then 0 else g k) hj,Qb (fun h=>e h.symm)]
  rw[split2 fun k=>f (swN i j k),split2 f,e1,e2,Zm (g:=fun k=>if k=j then 0 else if k=i then 0 else f k) fun k _=>by
   by_cases h1:k=j
   .rw[Qc h1,Qc h1]
   .rw[Qb h1,Qb h1]
    by_cases h2:k=i
    .rw[Qc h2,Qc h2]
    .rw[Qb h2,Qb h2];unfold swN;rw[Qb h2,Qb h1]]
  omega
theorem InvH.swap(hI:InvH a n R S){i j:Nat}(hi:i<n)(hj:j<n):InvH a n R (S.swap i j) where
 en:=hI.en
 eR:=hI.eR
 hau r hr c hc:=hI.hau r hr _ (zcg hi hj hc)
 uv p q hp hq:=by
  rw[<-hI.uv p q hp hq];exact zyz (f:=fun k=>S.u p k*S.v k q) hi hj
 vu p q hp hq:=by
  have:=hI.vu _ _ (zcg hi hj hp) (zcg hi hj hq);show smI (fun k=>S.v (swN i j p) k*S.u k (swN i j q)) n=_;rw[this];by_cases e:p=q
  .rw[Qc e,Qc (by rw[e])]
  .rw[Qb e,Qb fun h=>e (zpZ h)]
theorem InvH.turn(hI:InvH a n R S)(i:Nat):InvH a n R (S.turn i) where
 en:=hI.en
 eR:=hI.eR
 hau r hr c hc:=by
  show(if c=i then -(S.h r c)else S.h r c)=smI (fun k=>a r k*(if c=i then -(S.u k c)else S.u k c)) n;by_cases e:c=i
  .rw[Qc e,hI.hau r hr c hc,show -(smI (fun k=>a r k*S.u k c) n)=(-1)*smI (fun k=>a r k*S.u k c) n by omega,<-Yp]
   exact Zm fun k _=>by rw[Qc e,wb1];omega
  .rw[Qb e,hI.hau r hr c hc]
   exact Zm fun k _=>by rw[Qb e]
 uv p q hp hq:=by
  rw[<-hI.uv p q hp hq];refine Zm fun k _=>?_
  show(if k=i then -(S.u p k)else S.u p k)*(if k=i then -(S.v k q)else S.v k q)=_;by_cases e:k=i
  .rw[Qc e,Qc e,Int.neg_mul_neg]
  .rw[Qb e,Qb e]
 vu p q hp hq:=by
  have h:=hI.vu p q hp hq;have e:∀ k,(S.turn i).v p k*(S.turn i).u k q=(if p=i then -1 else 1)*((if q=i then -1 else 1)*(S.v p k*S.u k q)):=fun k=>by
   show(if p=i then -(S.v p k)else S.v p k)*(if q=i then -(S.u k q)else S.u k q)=_;by_cases e1:p=i<;>by_cases e2:q=i<;>simp only[e1,e2,if_true,if_false]<;>grind
  rw[Zm fun k _=>e k,Yp,Yp,h];by_cases e1:p=q
  .subst e1;rw[Qc rfl];split<;>rfl
  .rw[Qb e1,waF,waF]
end
def Z8(f:Nat->Int)(k:Nat):Nat->Option Nat×Nat
 |0=>(none,0)
 |m+1=>if f (k+m)=0 then Z8 f k m else(match (Z8 f k m).1 with|none=>some (k+m)|some p=>if(f (k+m)).natAbs<(f p).natAbs then some (k+m)else some p,(Z8 f k m).2+1)
theorem zbK(f:Nat->Int)(k:Nat):∀ m,
  match (Z8 f k m).1 with
  |none=>(Z8 f k m).2=0/\∀ j,k<=j->j<k+m->f j=0
  |some p=>1<=(Z8 f k m).2/\k<=p/\p<k+m/\f p≠0/\(∀ j,k<=j->j<k+m->f j≠0->(f p).natAbs<=(f j).natAbs)/\((Z8 f k m).2=1↔∀ j,k<=j->j<k+m->j≠p->f j=0)
 |0=>⟨rfl,fun j h1 h2=>by omega⟩
 |m+1=>by
  have ih:=zbK f k m;rw[Z8];by_cases h0:f (k+m)=0
  .rw[Qc h0]
   revert ih;cases hl:(Z8 f k m).1 with
   |none =>
    rintro⟨h1,h2⟩;refine⟨h1,fun j a b=>?_⟩;by_cases e:j=k+m
    .rw[e];exact h0
    .exact h2 j a (by omega)
   |some p =>
    rintro⟨h1,h2,h3,h4,h5,h6⟩;refine⟨h1,h2,by omega,h4,fun j a b c=>?_,h6.trans ⟨fun h j a b c=>?_,fun h j a b c=>h j a (by omega) c⟩⟩
    .by_cases e:j=k+m
     .rw[e]at c;exact Qo h0 c
     .exact h5 j a (by omega) c
    .by_cases e:j=k+m
     .rw[e];exact h0
     .exact h j a (by omega) c
  .rw[Qb h0]
   revert ih;cases hl:(Z8 f k m).1 with
   |none =>
    rintro⟨h1,h2⟩;refine⟨by show 1<=(Z8 f k m).2+1;omega,by omega,by omega,h0,fun j a b c=>?_,⟨fun _ j a b c=>h2 j a (by omega),fun _=>by show(Z8 f k m).2+1=1;omega⟩⟩;by_cases e:j=k+m
    .rw[e];exact Qd _
    .exact Qo (h2 j a (by omega)) c
   |some p =>
    rintro⟨h1,h2,h3,h4,h5,h6⟩;by_cases Yw:(f (k+m)).natAbs<(f p).natAbs
    .show match (if(f (k+m)).natAbs<(f p).natAbs then some (k+m)else some p)with|none=>_|some p=>_
     rw[Qc Yw];refine⟨by show 1<=(Z8 f k m).2+1;omega,by omega,by omega,h0,fun j a b c=>?_,⟨fun h=>?_,fun h=>Qo (h p h2 (by omega) (by omega)) h4⟩⟩
     .by_cases e:j=k+m
      .rw[e];exact Qd _
      .have:=h5 j a (by omega) c;omega
     .exfalso;change (Z8 f k m).2+1=1 at h;omega
    .show match (if(f (k+m)).natAbs<(f p).natAbs then some (k+m)else some p)with|none=>_|some p=>_
     rw[Qb Yw];refine⟨by show 1<=(Z8 f k m).2+1;omega,h2,by omega,h4,fun j a b c=>?_,⟨fun h=>?_,fun h=>Qo (h (k+m) (by omega) (by omega) (by omega)) h0⟩⟩
     .by_cases e:j=k+m
      .rw[e];omega
      .exact h5 j a (by omega) c
     .exfalso;change (Z8 f k m).2+1=1 at h;omega
def ZL(r:Nat)(G:Nat->Nat->Int)(w:Nat->Int):Prop:=∃ c:Int,c≠0/\∃ z:Nat->Int,∀ j,c*w j=smI (fun i=>z i*G i j) r
def skp(p i:Nat):Nat:=if i<p then i else i+1
theorem zp5{f:Nat->Int}{p:Nat}:∀ {r:Nat},p<=r->smI f (r+1)=f p+smI (fun i=>f (skp p i)) r
 |0,h=>by
  obtain rfl:p=0:=by omega
  show(0:Int)+f 0=f 0+0;omega
 |r+1,h=>by
  by_cases e:p=r+1
  .subst e
   have e1:smI (fun i=>f (skp (r+1) i)) (r+1)=smI f (r+1):=Zm fun i hi=>by unfold skp;rw[Qc hi]
   rw[e1];show smI f (r+1)+f (r+1)=_;omega
  .have ih:=zp5 (f:=f) (r:=r) (p:=p) (by omega)
   show smI f (r+1)+f (r+1)=f p+(smI (fun i=>f (skp p i)) r+f (skp p r))
   have e2:skp p r=r+1:=by unfold skp;rw[Qb (by omega)]
   rw[ih,e2];omega
theorem ZL.cut{r:Nat}{G:Nat->Nat->Int}{v:Nat}{w0:Nat->Int}(h0:ZL (r+1) G w0)(hv:w0 v≠0):∃ G',∀ w,w v=0->ZL (r+1) G w->ZL r G' w:=by
 obtain⟨c0,XT,z0,h0⟩:=h0;have hp:∃ p,p<=r/\G p v≠0:=by
  refine waD fun X9=>?_
  have:smI (fun i=>z0 i*G i v) (r+1)=0:=zcv fun i hi=>by
   have:G i v=0:=waD fun h=>X9 ⟨i,by omega,h⟩
   rw[this,waF]
  rw[<-h0]at this;exact(wcN XT hv) this
 obtain⟨p,hp,VI⟩:=hp;refine⟨fun i j=>G p v*G (skp p i) j-G (skp p i) v*G p j,fun w hw ⟨c,hc,z,h⟩=>⟨c*G p v,wcN hc VI,fun i=>z (skp p i),fun j=>?_⟩⟩;have h1:=h j;have h2:=h v;rw[zp5 hp]at h1 h2;rw[hw,waF]at h2;have e:smI (fun i=>z (skp p i)*(G p v*G (skp p i) j-G (skp p i) v*G p j)) r=G p v*smI (fun i=>z (skp p i)*G (skp p i) j) r-G p j*smI (fun i=>z (skp p i)*G (skp p i) v) r:=by
  rw[<-Yp,<-Yp,<-zfd];exact Zm fun i _=>by grind
 rw[e];generalize smI (fun i=>z (skp p i)*G (skp p i) j) r=A at *
 generalize smI (fun i=>z (skp p i)*G (skp p i) v) r=B at *
 have h3:B = -(z p*G p v):=by omega
 have h4:c*G p v*w j=G p v*(c*w j):=by grind
 rw[h4,h1,h3]
 grind
theorem ZL.map{r:Nat}{G:Nat->Nat->Int}{w:Nat->Int}(h:ZL r G w)(U:Nat->Nat->Int)(n:Nat):ZL r (fun i j=>smI (fun v=>G i v*U v j) n) (fun j=>smI (fun v=>w v*U v j) n):=by
 obtain⟨c,hc,z,h⟩:=h;refine⟨c,hc,z,fun j=>?_⟩;rw[<-Yp];have e1:smI (fun v=>c*(w v*U v j)) n=smI (fun v=>smI (fun i=>z i*(G i v*U v j)) r) n:=Zm fun v _=>by
  have e2:c*(w v*U v j)=U v j*(c*w v):=by grind
  rw[e2,h v,<-Yp];exact Zm fun i _=>by grind
 rw[e1,ze2];exact Zm fun i _=>Yp
theorem ZL.re{r:Nat}{G:Nat->Nat->Int}{w:Nat->Int}(h:ZL r G w)(s:Nat->Nat):ZL r (fun i j=>G i (s j)) (fun j=>w (s j)):=by
 obtain⟨c,hc,z,h⟩:=h;exact⟨c,hc,z,fun j=>h (s j)⟩
theorem ZL.comb{r:Nat}{G:Nat->Nat->Int}{w u:Nat->Int}(h1:ZL r G w)(h2:ZL r G u)(a b:Int):ZL r G (fun j=>a*w j+b*u j):=by
 obtain⟨c,hc,z,h1⟩:=h1;obtain⟨d,hd,y,h2⟩:=h2;refine⟨c*d,wcN hc hd,fun i=>a*d*z i+b*c*y i,fun j=>?_⟩;have e:smI (fun i=>(a*d*z i+b*c*y i)*G i j) r=a*d*smI (fun i=>z i*G i j) r+b*c*smI (fun i=>y i*G i j) r:=by
  rw[<-Yp,<-Yp,<-zfe];exact Zm fun i _=>by grind
 rw[e,<-h1 j,<-h2 j]
 grind
theorem ZL.div{r:Nat}{G:Nat->Nat->Int}{w:Nat->Int}{g:Int}(hg:g≠0)(h:ZL r G (fun j=>g*w j)):ZL r G w:=by
 obtain⟨c,hc,z,h⟩:=h;exact⟨c*g,wcN hc hg,z,fun j=>by rw[<-h j];grind⟩
theorem ZL.sc{r:Nat}{G:Nat->Nat->Int}{w:Nat->Int}(h:ZL r G w)(a:Int):ZL r G (fun j=>a*w j):=by
 obtain⟨c,hc,z,h⟩:=h;refine⟨c,hc,fun i=>a*z i,fun j=>?_⟩;have e:smI (fun i=>a*z i*G i j) r=a*smI (fun i=>z i*G i j) r:=by
  rw[<-Yp];exact Zm fun i _=>by grind
 rw[e,<-h j];grind
theorem ZL.none{G:Nat->Nat->Int}{w:Nat->Int}(h:ZL 0 G w)(j:Nat):w j=0:=by
 obtain⟨c,hc,z,h⟩:=h;have h1:c*w j=0:=h j;rcases Int.mul_eq_zero.1 h1 with h2|h2
 .exact Qo h2 hc
 .exact h2
theorem ZL.unit{n:Nat}{w:Nat->Int}(h:∀ j,n<=j->w j=0):ZL n (fun i j=>if i=j then 1 else 0) w :=
 ⟨1,by decide,w,fun j=>by
  rw[zsp (c:=j) (fun i _ hi=>by show w i*(if i=j then 1 else 0)=0;rw[Qb hi,waF]) (fun hj=>by show w j*_=0;rw[h j hj,wbc])];show 1*w j=w j*(if j=j then 1 else 0)
  rw[Qc rfl];omega⟩
theorem ZL.drop{r:Nat}{G:Nat->Nat->Int}{k:Nat}{e:Nat->Int}(h0:ZL (r+1) G e)(hk:e k≠0)(he:∀ c,c≠k->e c=0):∃ G',∀ w,ZL (r+1) G w->ZL r G' (fun c=>if c=k then 0 else w c):=by
 obtain⟨G',hG⟩:=h0.cut hk;refine⟨G',fun w hw=>ZL.div hk ?_⟩;have h1:=hG (fun c=>e k*w c + -(w k)*e c) (by show e k*w k + -(w k)*e k=0;grind) (hw.comb h0 _ _);have e2:(fun c=>e k*w c + -(w k)*e c)=fun c=>e k*(if c=k then 0 else w c):=by
  funext c;by_cases hc:c=k
  .rw[Qc hc,hc];grind
  .rw[Qb hc,he c hc];grind
 rw[e2]at h1;exact h1
theorem zp6{W:(Nat->Int)->Prop}{T:(Nat->Int)->Nat->Int}{r:Nat}{G:Nat->Nat->Int}(hG:∀ w,W w->ZL r G (T w)):∀ k,(∀ j,j<k->∃ e,W e/\T e j≠0/\∀ c,j<c->T e c=0) ->
  ∃ r' G',r'+k=r/\∀ w,W w->ZL r' G' (fun c=>if c<k then 0 else T w c)
 |0,_=>⟨r,G,rfl,fun w hw=>hG w hw⟩
 |k+1,h=>by
  obtain⟨r',G',h1,h2⟩:=zp6 hG k fun j hj=>h j (by omega)
  obtain⟨e,he,Sk,Sl⟩:=h k (waN k);have h3:=h2 e he;have Vd:(fun c=>if c<k then 0 else T e c) k≠0:=by show(if k<k then(0:Int)else T e k)≠0;rw[Qb (wa8 k)];exact Sk
  cases r' with
  |zero=>exact(Vd (h3.none k)).elim
  |succ r' =>
   obtain⟨G2,Dg⟩:=h3.drop (k:=k) Vd fun c hc=>by
    show(if c<k then(0:Int)else T e c)=0;by_cases h:c<k
    .rw[Qc h]
    .rw[Qb h,Sl c (by omega)]
   refine⟨r',G2,by omega,fun w hw=>?_⟩;have h4:=Dg _ (h2 w hw);have e4:(fun c=>if c=k then 0 else if c<k then 0 else T w c)=fun c=>if c<k+1 then 0 else T w c:=by
    funext c;by_cases h:c<k+1
    .rw[Qc h]
     by_cases h2:c=k
     .rw[Qc h2]
     .rw[Qb h2,Qc (by omega)]
    .rw[Qb h,Qb (by omega),Qb (by omega)]
   rw[<-e4];exact h4
def ZG(S:HX)(r k:Nat):Nat->HX
 |0=>S
 |m+1=>(ZG S r k m).less k (k+1+m) (Int.fdiv ((ZG S r k m).h r (k+1+m)) ((ZG S r k m).h r k))
section
variable {a:Nat->Nat->Int} {n R:Nat} {S:HX} {r k:Nat}
theorem znV(hI:InvH a n R S):∀ m,k+1+m<=n->InvH a n R (ZG S r k m)
 |0,_=>hI
 |m+1,h=>(znV hI m (by omega)).less (by omega) (by omega) (by omega) _
theorem zcF:∀ m c,c<=k\/k+1+m<=c->(∀ p,(ZG S r k m).h p c=S.h p c)/\∀ p,(ZG S r k m).u p c=S.u p c
 |0,_,_=>⟨fun _=>rfl,fun _=>rfl⟩
 |m+1,c,h=>by
  obtain⟨h1,h2⟩:=zcF m c (by omega);refine⟨fun p=>?_,fun p=>?_⟩
  .show(if c=k+1+m then _ else(ZG S r k m).h p c)=_
   rw[Qb (by omega),h1]
  .show(if c=k+1+m then _ else(ZG S r k m).u p c)=_
   rw[Qb (by omega),h2]
theorem zkl:∀ m p,p≠k->∀ c,(ZG S r k m).v p c=S.v p c
 |0,_,_,_=>rfl
 |m+1,p,h,c=>by
  show(if p=k then _ else(ZG S r k m).v p c)=_;rw[Qb h,zkl m p h c]
theorem zi2:∀ m c,k<c->c<k+1+m->(∀ p,(ZG S r k m).h p c=S.h p c-Int.fdiv (S.h r c) (S.h r k)*S.h p k)/\∀ p,(ZG S r k m).u p c=S.u p c-Int.fdiv (S.h r c) (S.h r k)*S.u p k
 |0,c,h1,h2=>by omega
 |m+1,c,h1,h2=>by
  obtain⟨k1,k2⟩:=zcF (S:=S) (r:=r) (k:=k) m k (.inl (Qd _));by_cases e:c=k+1+m
  .subst e
   obtain⟨l1,l2⟩:=zcF (S:=S) (r:=r) (k:=k) m (k+1+m) (.inr (Qd _));refine⟨fun p=>?_,fun p=>?_⟩
   .show(if k+1+m=k+1+m then(ZG S r k m).h p (k+1+m)-_*(ZG S r k m).h p k else _)=_
    rw[Qc rfl,l1,l1,k1,k1]
   .show(if k+1+m=k+1+m then(ZG S r k m).u p (k+1+m)-_*(ZG S r k m).u p k else _)=_
    rw[Qc rfl,l2,l1,k1,k2]
  .obtain⟨i1,i2⟩:=zi2 m c h1 (by omega)
   refine⟨fun p=>?_,fun p=>?_⟩
   .show(if c=k+1+m then _ else(ZG S r k m).h p c)=_
    rw[Qb e,i1]
   .show(if c=k+1+m then _ else(ZG S r k m).u p c)=_
    rw[Qb e,i2]
structure BdH(n R E:Nat)(S:HX):Prop where
 h:∀ r c,r<R->c<n->(S.h r c).natAbs<=E
 u:∀ r c,r<n->c<n->(S.u r c).natAbs<=E
 v:∀ r c,r<n->c<n->(S.v r c).natAbs<=E
theorem BdH.mono{E E':Nat}(h:BdH n R E S)(he:E<=E'):BdH n R E' S:=⟨fun r c a b=>Qn (h.h r c a b) he,fun r c a b=>Qn (h.u r c a b) he,fun r c a b=>Qn (h.v r c a b) he⟩
theorem zie{x y q:Int}{E Q:Nat}(hx:x.natAbs<=E)(hy:y.natAbs<=E)(hq:q.natAbs<=Q):(x-q*y).natAbs<=E*(1+Q)/\(x+q*y).natAbs<=E*(1+Q):=by
 have h1:(q*y).natAbs<=Q*E:=by rw[wbb];exact waB hq hy
 have h2:E*(1+Q)=E+Q*E:=by rw[waf,wah,Qt E Q]
 omega
theorem zpb{E Q:Nat}(hB:BdH n R E S)(hk:k<n)(hQ:∀ c,k<c->c<n->(Int.fdiv (S.h r c) (S.h r k)).natAbs<=Q):∀ m,k+1+m<=n->BdH n R (E*(1+n*Q)) (ZG S r k m):=by
 intro m hm;have YZ:E*(1+Q)<=E*(1+n*Q):=waz _ (wcz (wcA _ (by omega)) _);have VY:E<=E*(1+n*Q):=wb4 _ (by omega);refine⟨fun p c hp hc=>?_,fun p c hp hc=>?_,fun p c hp hc=>?_⟩
 .rcases was k c with h|h
  .rcases was c (k+1+m)with h2|h2
   .rw[(zi2 m c h h2).1]
    exact Qn (zie (hB.h p c hp hc) (hB.h p k hp hk) (hQ c h hc)).1 YZ
   .rw[(zcF m c (.inr h2)).1];exact Qn (hB.h p c hp hc) VY
  .rw[(zcF m c (.inl h)).1];exact Qn (hB.h p c hp hc) VY
 .rcases was k c with h|h
  .rcases was c (k+1+m)with h2|h2
   .rw[(zi2 m c h h2).2]
    exact Qn (zie (hB.u p c hp hc) (hB.u p k hp hk) (hQ c h hc)).1 YZ
   .rw[(zcF m c (.inr h2)).2];exact Qn (hB.u p c hp hc) VY
  .rw[(zcF m c (.inl h)).2];exact Qn (hB.u p c hp hc) VY
 .by_cases e:p=k
  .subst e
   have key:∀ j,j<=m->((ZG S r p j).v p c).natAbs<=E*(1+j*Q):=by
    intro j
    induction j with
    |zero=>intro _;show(S.v p c).natAbs<=_;have:=hB.v p c hp hc;rw[wdh,wap,wah];exact this
    |succ j ih =>
     intro hj;have h1:=ih (by omega);have h2:=hB.v (p+1+j) c (by omega) hc;have h3:=hQ (p+1+j) (by omega) (by omega);have l1:=(zcF (S:=S) (r:=r) (k:=p) j (p+1+j) (.inr (Qd _))).1 r;have l2:=(zcF (S:=S) (r:=r) (k:=p) j p (.inl (Qd _))).1 r;have l3:=zkl (S:=S) (r:=r) (k:=p) j (p+1+j) (by omega) c;show(if p=p then(ZG S r p j).v p c+Int.fdiv ((ZG S r p j).h r (p+1+j)) ((ZG S r p j).h r p)*(ZG S r p j).v (p+1+j) c else _).natAbs<=_;rw[Qc rfl,l1,l2,l3];have h4:(Int.fdiv (S.h r (p+1+j)) (S.h r p)*S.v (p+1+j) c).natAbs<=Q*E:=by rw[wbb];exact waB h3 h2
     have h5:E*(1+(j+1)*Q)=E*(1+j*Q)+Q*E:=by rw[waX,<-wbg,waf E (1+j*Q),Qt E Q]
     omega
   exact Qn (key m (Qd _)) (waz _ (wcz (wak _ (by omega)) _))
  .rw[zkl m p e];exact Qn (hB.v p c hp hc) VY
end
theorem zfW{x y:Int}(hy:0<y):0<=x-Int.fdiv x y*y/\x-Int.fdiv x y*y<y:=by
 have h1:=Int.fmod_nonneg_of_pos x hy;have h2:=Int.fmod_lt_of_pos x hy;rw[Int.fmod_def,waI]at h1 h2;exact⟨h1,h2⟩
theorem zkH{x y:Int}(hy:y<0):x-Int.fdiv x y*y<=0/\y<x-Int.fdiv x y*y:=by
 have h:=zfW (x:=-x) (y:=-y) (by omega);rw[Int.neg_fdiv_neg,wb1]at h;omega
theorem znT{x y:Int}(hy:y≠0):(x-Int.fdiv x y*y).natAbs<y.natAbs:=by
 rcases wcM hy with h|h
 .have:=zkH (x:=x) h;omega
 .have:=zfW (x:=x) h;omega
theorem zo9{x y:Int}(hy:y≠0):(Int.fdiv x y).natAbs*y.natAbs<=x.natAbs+y.natAbs:=by
 have h:=znT (x:=x) hy;have h2:(Int.fdiv x y*y).natAbs=(Int.fdiv x y).natAbs*y.natAbs:=wbb _ _;omega
def hdE(S:HX)(r k:Nat):Option Nat×Nat:=Z8 (S.h r) k (S.n-k)
def stE(S:HX)(r k:Nat):Option HX:=match (hdE S r k).1 with
 |none=>none
 |some p=>if(hdE S r k).2=1 then none else some (ZG (S.swap p k) r k (S.n-(k+1)))
def itE(S:HX)(r k:Nat):Nat->HX
 |0=>S
 |t+1=>match stE (itE S r k t) r k with|some S'=>S'|none=>itE S r k t
structure Hd(S:HX)(n r k m s:Nat):Prop where
 en:S.n=n
 least:∃ p,(hdE S r k).1=some p/\(S.h r p).natAbs=m
 most:∀ c,k<=c->c<n->(S.h r c).natAbs<=s
theorem ztb(S:HX)(k:Nat):S.swap k k=S:=by
 have e:∀ c,swN k k c=c:=fun c=>by unfold swN;split<;>(try split)<;>omega
 unfold HX.swap;simp only[e]
theorem BdH.swap{n R E:Nat}{S:HX}(h:BdH n R E S){i j:Nat}(hi:i<n)(hj:j<n):BdH n R E (S.swap i j) :=
 ⟨fun r c a b=>h.h r _ a (zcg hi hj b),fun r c a b=>h.u r _ a (zcg hi hj b),fun r c a b=>h.v _ c (zcg hi hj a) b⟩
theorem ziK{S S':HX}{n R r k m s E:Nat}(hH:Hd S n r k m s)(hk:k<n)(hB:BdH n R E S)(hs:stE S r k=some S') :
  (∃ p,(hdE S r k).1=some p/\k<=p/\p<n/\S'.h r k=S.h r p/\(p≠k->S'.h r p=S.h r k-Int.fdiv (S.h r k) (S.h r p)*S.h r p))/\1<=m/\m<=s/\S'.n=n/\BdH n R (E*(1+n*(s/m+1))) S'/\∃ y:Int,y.natAbs=m/\S'.h r k=y/\∀ c,k<c->c<n->(S'.h r c).natAbs<m/\(0<y->0<=S'.h r c)/\(y<0->S'.h r c<=0):=by
 obtain⟨p,hp,hm⟩:=hH.least;have Xe:=zbK (S.h r) k (S.n-k);change match (hdE S r k).1 with|none=>_|some p=>_ at Xe
 rw[hp]at Xe;obtain⟨_,h2,h3,h4,_,_⟩:=Xe;have en:=hH.en;have Uv:p<n:=by omega
 unfold stE at hs;rw[hp]at hs;change (if(hdE S r k).2=1 then none else some (ZG (S.swap p k) r k (S.n-(k+1))))=some S' at hs;split at hs
 .cases hs
 .obtain rfl:=wa0 hs
  have X6:1<=m:=by omega
  have Eh:m<=s:=by rw[<-hm];exact hH.most p h2 Uv
  have hy:(S.swap p k).h r k=S.h r p:=by show S.h r (swN p k k)=_;congr 1;unfold swN;split<;>(try split)<;>omega
  have KC:∀ c,k<c->c<n->((S.swap p k).h r c).natAbs<=s:=fun c a b=>by
   show(S.h r (swN p k c)).natAbs<=s;refine hH.most _ ?_ (zcg Uv hk b);unfold swN;split<;>(try split)<;>omega
  have Ei:k+1+(S.n-(k+1))=n:=by omega
  have Gt:∀ c,k<c->c<n->(ZG (S.swap p k) r k (S.n-(k+1))).h r c=(S.swap p k).h r c-Int.fdiv ((S.swap p k).h r c) (S.h r p)*S.h r p:=fun c a b=>by
   rw[(zi2 (S.n-(k+1)) c a (by omega)).1,hy]
  refine⟨⟨p,hp,h2,Uv,by rw[(zcF (S.n-(k+1)) k (.inl (Qd _))).1,hy],fun e=>?_⟩,X6,Eh,?_,?_,S.h r p,hm,?_,fun c a b=>?_⟩
  .rw[Gt p (by omega) Uv]
   have:(S.swap p k).h r p=S.h r k:=by show S.h r (swN p k p)=_;unfold swN;rw[Qc rfl]
   rw[this]
  .rw[<-en]
   have:∀ j,(ZG (S.swap p k) r k j).n=S.n:=fun j=>by induction j with|zero=>rfl|succ j ih=>exact ih
   exact this _
  .refine zpb (hB.swap Uv hk) hk (fun c a b=>?_) _ (by omega)
   rw[hy];have:=zo9 (x:=(S.swap p k).h r c) h4;have h6:=KC c a b;have h5:(Int.fdiv ((S.swap p k).h r c) (S.h r p)).natAbs<=(s+m)/m:=(wdd (by omega)).2 (by rw[hm]at this;omega)
   rwa[Nat.add_div_right _ (by omega)]at h5
  .rw[(zcF (S.n-(k+1)) k (.inl (Qd _))).1,hy]
  .rw[Gt c a b]
   refine⟨?_,fun h=>(zfW h).1,fun h=>(zkH h).1⟩;have:=znT (x:=(S.swap p k).h r c) h4;omega
theorem ziL{S:HX}{r k:Nat}(h:stE S r k=none):∀ t,itE S r k t=S
 |0=>rfl
 |t+1=>by rw[itE,ziL h t,h]
theorem zeX{S S':HX}{r k:Nat}(h:stE S r k=some S'):∀ t,itE S r k (t+1)=itE S' r k t
 |0=>by show(match stE S r k with|some S'=>S'|none=>S)=S';rw[h]
 |t+1=>by rw[itE,zeX h t];rfl
theorem zjD{S:HX}{n r k c s:Nat}(en:S.n=n)(hc:k<=c)(XC:c<n)(h0:S.h r c≠0)(hs:∀ c,k<=c->c<n->(S.h r c).natAbs<=s):∃ m,Hd S n r k m s/\m<=(S.h r c).natAbs:=by
 have Xe:=zbK (S.h r) k (S.n-k);change match (hdE S r k).1 with|none=>_|some p=>_ at Xe
 cases hp:(hdE S r k).1 with
 |none=>rw[hp]at Xe;exact Qo (Xe.2 c hc (by omega)) h0
 |some p=>rw[hp]at Xe;exact⟨_,⟨en,⟨p,hp,rfl⟩,hs⟩,Xe.2.2.2.2.1 c hc (by omega) h0⟩
theorem zpa{S S':HX}{n r k m s:Nat}(hH:Hd S n r k m s)(hs:stE S r k=some S')(hk:k<n)(Yw:∀ c,k<c->c<n->(S.h r c).natAbs<(S.h r k).natAbs):m<(S.h r k).natAbs:=by
 obtain⟨p,hp,hm⟩:=hH.least;have Xe:=zbK (S.h r) k (S.n-k);change match (hdE S r k).1 with|none=>_|some p=>_ at Xe
 rw[hp]at Xe;obtain⟨_,h2,h3,h4,h5,h6⟩:=Xe;have en:=hH.en;unfold stE at hs;rw[hp]at hs;change (if(hdE S r k).2=1 then none else some (ZG (S.swap p k) r k (S.n-(k+1))))=some S' at hs;split at hs
 .cases hs
 .rename_i hne
  by_cases e:p=k
  .exfalso
   refine hne (h6.2 fun j a b c=>waD fun h0=>?_);have h7:=h5 j a b h0;have h8:=Yw j (by omega) (by omega);rw[e]at h7;omega
  .have:=Yw p (by omega) (by omega)
   omega
theorem zpR{m s E E1 n:Nat}(hm:1<=m)(Eh:m<=s)(he:E1=E*(1+n*(s/m+1))):m*E1<=E*((2*n+1)*s)/\E<=E1:=by
 have h1:m*(s/m)<=s:=Nat.mul_div_le s m;have h2:m*(1+n*(s/m+1))=m+n*(m*(s/m)+m):=by
  rw[waf,wah,wc0,waf,wah]
 have h3:n*(m*(s/m)+m)<=n*(2*s):=waz _ (by omega);have h4:n*(2*s)+s=(2*n+1)*s:=by rw[war,wdF,Qt 2 n,wae]
 have h5:m*(1+n*(s/m+1))<=(2*n+1)*s:=by omega
 subst he;exact⟨by rw[wc0];exact waz _ h5,wb4 _ (by omega)⟩
theorem zpS{m m' b D:Nat}(h:2*m'<=m)(hD:D<=2^b):D*m' ^ b<=m^b:=by
 refine Qn (wak _ hD) ?_;rw[<-Nat.mul_pow];exact wcn h b
theorem zzh{n R r k b D:Nat}(hk:k<n)(EK:D=2*n+1)(hD:D*D<=2^b):∀ (m:Nat) (S:HX) (s E:Nat),Hd S n r k m s->BdH n R E S->∀ t,BdH n R (E*(D*s*m^b)) (itE S r k t):=by
 have M8:1<=D:=by omega
 have PG:D<=2^b:=Qn (wcA _ M8) hD;intro m
 induction m using Nat.strongRecOn with
 |_ m ih =>
  intro S s E hH hB t;obtain⟨p0,KJ,Ro⟩:=hH.least;have Xe:=zbK (S.h r) k (S.n-k);change match (hdE S r k).1 with|none=>_|some p=>_ at Xe
  rw[KJ]at Xe;have X6:1<=m:=by have:=Xe.2.2.2.1;omega
  have Eh:m<=s:=by rw[<-Ro];exact hH.most p0 Xe.2.1 (by have:=hH.en;omega)
  have Jb:∀ E1,m*E1<=E*(D*s)->E1<=E*(D*s*m^b):=fun E1 h=>by
   have h1:E1<=m*E1:=wcA _ X6;have h2:E*(D*s)<=E*(D*s*m^b):=waz _ (wb4 _ (waZ X6));omega
  have MA:E<=E*(D*s*m^b):=wb4 _ (wcI (wcI M8 (by omega)) (waZ X6));cases YN:stE S r k with
  |none=>rw[ziL YN];exact hB.mono MA
  |some S' =>
   cases t with
   |zero=>exact hB.mono MA
   |succ t =>
    rw[zeX YN];obtain⟨_,_,_,en',RG,y,hy,Ko,VL⟩:=ziK hH hk hB YN;obtain⟨E1,R6⟩:∃ E1,E1=E*(1+n*(s/m+1)):=⟨_,rfl⟩
    rw[<-R6]at RG;obtain⟨UL,_⟩:=zpR X6 Eh R6;rw[<-EK]at UL;have Vq:S'.h r k≠0:=by rw[Ko];omega
    have Jj:∀ c,k<=c->c<n->(S'.h r c).natAbs<=m:=fun c a b=>by
     by_cases e:c=k
     .rw[e,Ko];omega
     .have:=(VL c (by omega) b).1;omega
    obtain⟨m',Wh,JG⟩:=zjD en' (Qd k) hk Vq Jj;cases Wz:stE S' r k with
    |none=>rw[ziL Wz];exact RG.mono (Jb E1 UL)
    |some S'' =>
     have Yw:=zpa Wh Wz hk fun c a b=>by have:=(VL c a b).1;rw[Ko];omega
     rw[Ko,hy]at Yw;by_cases DD:2*m'<=m
     .refine(ih m' Yw S' m E1 Wh RG t).mono ?_
      have h1:E1*(D*m*m' ^ b)=m*E1*(D*m' ^ b):=by rw[Qt D m,wae m D,<-wae E1 m,Qt E1 m]
      have h2:E*(D*s*m^b)=E*(D*s)*m^b:=(wae _ _ _).symm;rw[h1,h2];exact waB UL (zpS DD PG)
     .obtain⟨⟨p,hp,VR,Uv,DE,Xt⟩,HQ,HS,en'',ER,y',hy',N0,DF⟩:=ziK Wh hk RG Wz
      obtain⟨E2,MB⟩:∃ E2,E2=E1*(1+n*(m/m'+1)):=⟨_,rfl⟩
      rw[<-MB]at ER;obtain⟨JB,_⟩:=zpR HQ HS MB;rw[<-EK]at JB;have NT:p≠k:=fun e=>by rw[e,N0,Ko]at DE;omega
      have hr:=Xt NT;have Nl:S'.h r p=y':=by rw[<-DE,N0]
      rw[Nl,Ko]at hr;obtain⟨_,NA,UQ⟩:=VL p (by omega) Uv;rw[Nl]at NA UQ;have HT:S''.h r p≠0/\(S''.h r p).natAbs*2<=m:=by
       have key:S''.h r p=y-y':=by
        rw[hr];have hq:Int.fdiv y y'=1:=by
         rcases wcM (show y'≠0 by omega)with h|h
         .have h1:=zkH (x:=y) h
          have Fj:y<0:=by
           rcases wcM (show y≠0 by omega)with h2|h2
           .exact h2
           .have:=NA h2;omega
          rcases wbH (Int.fdiv y y') 1 with h2|h2|h2
          .have:Int.fdiv y y'*y'≥0:=Int.mul_nonneg_of_nonpos_of_nonpos (by omega) (by omega);omega
          .exact h2
          .have:Int.fdiv y y'*y'<=2*y':=Int.mul_le_mul_of_nonpos_right (by omega) (by omega);omega
         .have h1:=zfW (x:=y) h
          have Fj:0<y:=by
           rcases wcM (show y≠0 by omega)with h2|h2
           .have:=UQ h2;omega
           .exact h2
          rcases wbH (Int.fdiv y y') 1 with h2|h2|h2
          .have:Int.fdiv y y'*y'<=0:=Int.mul_nonpos_of_nonpos_of_nonneg (by omega) (by omega);omega
          .exact h2
          .have:2*y'<=Int.fdiv y y'*y':=wdB (by omega) (by omega);omega
        rw[hq,wcq]
       rw[key];rcases wcM (show y≠0 by omega)with h2|h2
       .have:=UQ h2;omega
       .have:=NA h2;omega
      cases t with
      |zero=>exact RG.mono (Jb E1 UL)
      |succ t =>
       rw[zeX Wz];have NB:∀ c,k<=c->c<n->(S''.h r c).natAbs<=m':=fun c a b=>by
        by_cases e:c=k
        .rw[e,N0];omega
        .have:=(DF c (by omega) b).1;omega
       obtain⟨m2,XF,E8⟩:=zjD en'' VR Uv HT.1 NB;refine(ih m2 (by omega) S'' m' E2 XF ER t).mono ?_;have h1:E2*(D*m'*m2^b)=m'*E2*(D*m2^b):=by rw[Qt D m',wae m' D,<-wae E2 m',Qt E2 m']
       have h2:E*(D*s*m^b)=E*(D*s)*m^b:=(wae _ _ _).symm;have h3:E1*(D*m)*(D*m2^b)=m*E1*(D*D*m2^b):=by
        rw[Qt m E1,Qt D m,<-wae E1 m,wae (E1*m) D,<-wae D D]
       rw[h1,h2];refine Qn (wak _ JB) ?_;rw[h3];exact waB UL (zpS (by omega) hD)
theorem zw6{n R r k:Nat}(hk:k<n):∀ (m:Nat) (S:HX) (s E:Nat),Hd S n r k m s->BdH n R E S->∃ T,T<=m/\(∀ t,t<T->stE (itE S r k t) r k≠none)/\stE (itE S r k T) r k=none:=by
 intro m
 induction m using Nat.strongRecOn with
 |_ m ih =>
  intro S s E hH hB;cases YN:stE S r k with
  |none=>exact⟨0,Qk _,fun t ht=>by omega,YN⟩
  |some S' =>
   obtain⟨_,X6,_,en',RG,y,hy,Ko,VL⟩:=ziK hH hk hB YN;have Jj:∀ c,k<=c->c<n->(S'.h r c).natAbs<=m:=fun c a b=>by
    by_cases e:c=k
    .rw[e,Ko];omega
    .have:=(VL c (by omega) b).1;omega
   obtain⟨m',Wh,JG⟩:=zjD en' (Qd k) hk (by rw[Ko];omega) Jj;have shift:∀ {T},T+1<=m->(∀ t,t<T->stE (itE S' r k t) r k≠none)->stE (itE S' r k T) r k=none->∃ T,T<=m/\(∀ t,t<T->stE (itE S r k t) r k≠none)/\stE (itE S r k T) r k=none:=fun {T} h0 h1 h2 =>
    ⟨T+1,h0,fun t ht=>by
     cases t with
     |zero=>show stE S r k≠none;rw[YN];simp
     |succ t=>rw[zeX YN];exact h1 t (by omega),by rw[zeX YN];exact h2⟩
   cases Wz:stE S' r k with
   |none=>exact shift (T:=0) X6 (fun t ht=>by omega) Wz
   |some S'' =>
    have Yw:=zpa Wh Wz hk fun c a b=>by have:=(VL c a b).1;rw[Ko];omega
    rw[Ko,hy]at Yw;obtain⟨T,h0,h1,h2⟩:=ih m' Yw S' m _ Wh RG;exact shift (by omega) h1 h2
def Zy(S:HX)(r k:Nat):Nat->HX
 |0=>S
 |i+1=>(Zy S r k i).less k i (Int.fdiv ((Zy S r k i).h r i) ((Zy S r k i).h r k))
def zb1(S:HX)(r k:Nat):HX:=if S.h r k<0 then S.turn k else S
def zb2(S:HX)(r k p:Nat):HX:=zb1 (S.swap p k) r k
def Yj(S:HX)(r k:Nat):HX×Bool:=match (hdE S r k).1 with
 |none=>(S,false)
 |some p=>(Zy (zb2 S r k p) r k k,true)
def fuS(S:HX)(r k:Nat):Nat->Nat
 |0=>0
 |f+1=>match stE S r k with|none=>0|some S'=>fuS S' r k f+1
def fuE(S:HX)(r k:Nat):Nat:=fuS S r k (match (hdE S r k).1 with
 |none=>0
 |some p=>(S.h r p).natAbs)
theorem zqh{r k:Nat}:∀ (f:Nat) (S:HX) (T:Nat),T<=f->(∀ t,t<T->stE (itE S r k t) r k≠none)->stE (itE S r k T) r k=none->fuS S r k f=T
 |0,S,T,h,_,_=>by
  have:T=0:=by omega
  rw[this];rfl
 |f+1,S,T,h,J7,YN=>by
  unfold fuS;cases hs:stE S r k with
  |none =>
   cases T with
   |zero=>rfl
   |succ T=>exact(J7 0 (by omega) hs).elim
  |some S' =>
   cases T with
   |zero=>rw[show itE S r k 0=S from rfl,hs]at YN;cases YN
   |succ T =>
    show fuS S' r k f+1=T+1;rw[zqh f S' T (by omega) (fun t ht=>by have:=J7 (t+1) (by omega);rwa[zeX hs]at this) (by rwa[zeX hs]at YN)]
def ZO(S:HX)(r k:Nat):HX×Bool:=Yj (itE S r k (fuE S r k)) r k
theorem zkF{S:HX}{r k:Nat}:∀ m,(ZG S r k m).n=S.n/\(ZG S r k m).R=S.R
 |0=>⟨rfl,rfl⟩
 |m+1=>zkF (S:=S) (r:=r) (k:=k) m
theorem zkG{S:HX}{r k:Nat}:∀ m,(Zy S r k m).n=S.n/\(Zy S r k m).R=S.R
 |0=>⟨rfl,rfl⟩
 |m+1=>zkG (S:=S) (r:=r) (k:=k) m
theorem znQ{S:HX}{r k:Nat}:(zb1 S r k).n=S.n/\(zb1 S r k).R=S.R:=by unfold zb1;split<;>exact⟨rfl,rfl⟩
theorem zv6{S S':HX}{r k:Nat}(h:stE S r k=some S'):S'.n=S.n/\S'.R=S.R:=by
 unfold stE at h;split at h
 .cases h
 .split at h
  .cases h
  .cases h;exact zkF (S:=S.swap _ k) _
theorem zc8{S:HX}{r k:Nat}:∀ t,(itE S r k t).n=S.n/\(itE S r k t).R=S.R
 |0=>⟨rfl,rfl⟩
 |t+1=>by
  have ih:=zc8 (S:=S) (r:=r) (k:=k) t;rw[itE];split
  .rename_i S' h
   have:=zv6 h;exact⟨this.1.trans ih.1,this.2.trans ih.2⟩
  .exact ih
theorem znR{S:HX}{r k:Nat}:(Yj S r k).1.n=S.n/\(Yj S r k).1.R=S.R:=by
 unfold Yj;split
 .exact⟨rfl,rfl⟩
 .have h1:=zkG (S:=zb2 S r k ‹_›) (r:=r) (k:=k) k
  have h2:=znQ (S:=S.swap ‹_› k) (r:=r) (k:=k);exact⟨h1.1.trans h2.1,h1.2.trans h2.2⟩
theorem zuo{S:HX}{r k:Nat}:(ZO S r k).1.n=S.n/\(ZO S r k).1.R=S.R:=by
 have h1:=znR (S:=itE S r k (fuE S r k)) (r:=r) (k:=k);have h2:=zc8 (S:=S) (r:=r) (k:=k) (fuE S r k);exact⟨h1.1.trans h2.1,h1.2.trans h2.2⟩
theorem zmW{f g:Nat->Int}{k:Nat}:∀ {m:Nat},(∀ c,k<=c->c<k+m->f c=g c)->Z8 f k m=Z8 g k m
 |0,_=>rfl
 |m+1,h=>by
  have ih:=zmW (f:=f) (g:=g) (k:=k) (m:=m) fun c a b=>h c a (by omega)
  have Xe:=zbK g k m;rw[Z8,Z8,ih,h (k+m) (by omega) (by omega)];split
  .rfl
  .congr 1
   revert Xe;split
   .intro _;rfl
   .rintro⟨_,h2,h3,_⟩
    rw[h _ h2 (by omega)]
def zaS(i j:Nat):Int:=if i=j then 1 else 0
def zl1(a:Nat->Nat->Int)(n R:Nat):HX:=⟨n,R,a,zaS,zaS⟩
def QF(a:Nat->Nat->Int)(n R:Nat):Nat->HX×Nat
 |0=>(zl1 a n R,0)
 |r+1=>((ZO (QF a n R r).1 r (QF a n R r).2).1,if(ZO (QF a n R r).1 r (QF a n R r).2).2 then(QF a n R r).2+1 else(QF a n R r).2)
def pvS(a:Nat->Nat->Int)(n R r:Nat):Int:=if(ZO (QF a n R r).1 r (QF a n R r).2).2 then((QF a n R r).2:Int)else -1
theorem zc4{a:Nat->Nat->Int}{n R:Nat}:∀ r,(QF a n R r).1.n=n/\(QF a n R r).1.R=R
 |0=>⟨rfl,rfl⟩
 |r+1=>by
  have ih:=zc4 (a:=a) (n:=n) (R:=R) r;have:=zuo (S:=(QF a n R r).1) (r:=r) (k:=(QF a n R r).2);exact⟨this.1.trans ih.1,this.2.trans ih.2⟩
theorem zxh{S:HX}{r k:Nat}(h:(Yj S r k).2=true):k<S.n:=by
 unfold Yj at h;split at h
 .cases h
 .rename_i p hp
  have:=zbK (S.h r) k (S.n-k);change match (hdE S r k).1 with|none=>_|some p=>_ at this
  rw[hp]at this;have h2:k<=p/\p<k+(S.n-k):=⟨this.2.1,this.2.2.1⟩
  omega
theorem ze4{a:Nat->Nat->Int}{n R:Nat}:∀ r,(QF a n R r).2<=n/\(QF a n R r).2<=r
 |0=>⟨Qk _,Qd _⟩
 |r+1=>by
  have ih:=ze4 (a:=a) (n:=n) (R:=R) r;have hd:=zc4 (a:=a) (n:=n) (R:=R) r;have e:(QF a n R (r+1)).2=if(ZO (QF a n R r).1 r (QF a n R r).2).2 then(QF a n R r).2+1 else(QF a n R r).2:=rfl
  rw[e];by_cases h:(ZO (QF a n R r).1 r (QF a n R r).2).2=true
  .have:=zxh h
   have h2:=zc8 (S:=(QF a n R r).1) (r:=r) (k:=(QF a n R r).2) (fuE (QF a n R r).1 r (QF a n R r).2);rw[Qc h];omega
  .rw[Qb h]
   omega
section
variable (S:HX) (pv:Nat->Int) (kk:Nat->Nat) (b:Nat->Int)
def ZD:Nat->Nat->Int
 |0=>fun _=>0
 |r+1=>if pv r<0 then ZD r else fun j=>if j=kk r then Int.fdiv (b r-smI (fun i=>S.h r i*ZD r i) (kk r)) (S.h r (kk r))else ZD r j
def zav(r:Nat):Int:=b r-smI (fun i=>S.h r i*ZD S pv kk b r i) (kk r)
def zcU(r:Nat):Prop:=if pv r<0 then zav S pv kk b r≠0 else Int.fmod (zav S pv kk b r) (S.h r (kk r))≠0
def zb0(r:Nat):Rat:=if pv r<0 then Rat.divInt 1 (zav S pv kk b r+zav S pv kk b r)else Rat.divInt 1 (S.h r (kk r))
def zfF(n R:Nat)(i:Nat):Int:=smI (fun j=>S.u i j*ZD S pv kk b R j) n
end
def rsF(S:HX)(pv:Nat->Int)(r:Nat)(q0:Rat):Nat->Nat->Rat
 |0=>fun j=>if j=r then q0 else 0
 |t+1=>if pv (r-1-t)<0 then rsF S pv r q0 t else fun j=>if j=r-1-t then -(smQ (fun d=>rsF S pv r q0 t (r-t+d)*(S.h (r-t+d) (pv (r-1-t)).toNat:Rat)) (t+1)*(S.h (r-1-t) (pv (r-1-t)).toNat:Rat)⁻¹)else rsF S pv r q0 t j
structure Shp(g:Nat->Nat->Int)(R n:Nat)(k:Nat->Nat):Prop where
 k0:k 0=0
 right:∀ i j,i<R->k i<j->j<n->g i j=0
 out:∀ i,i<R->n<=k i->k (i+1)=k i
 nonneg:∀ i,i<R->k i<n->0<=g i (k i)
 zero:∀ i,i<R->k i<n->g i (k i)=0->k (i+1)=k i
 piv:∀ i,i<R->k i<n->0<g i (k i)->k (i+1)=k i+1/\∀ j,j<k i->0<=g i j/\g i j<g i (k i)
theorem Shp.le{g:Nat->Nat->Int}{R n:Nat}{k:Nat->Nat}(h:Shp g R n k):∀ i,i<=R->k i<=n/\k i<=i
 |0,_=>by rw[h.k0];omega
 |i+1,hi=>by
  have ih:=h.le i (by omega);by_cases c:n<=k i
  .rw[h.out i (by omega) c];omega
  .by_cases c2:g i (k i)=0
   .rw[h.zero i (by omega) (by omega) c2];omega
   .have h3:=h.nonneg i (by omega) (by omega)
    rw[(h.piv i (by omega) (by omega) (by omega)).1];omega
section
variable {a:Nat->Nat->Int} {n R r k:Nat} {S:HX}
theorem zoi(hI:InvH a n R S)(hk:k<n):∀ m,m<=k->InvH a n R (Zy S r k m)
 |0,_=>hI
 |m+1,h=>(zoi hI hk m (by omega)).less hk (by omega) (by omega) _
theorem ze0{p:Nat}(h:(hdE S r k).1=some p):k<=p/\p<S.n:=by
 have:=zbK (S.h r) k (S.n-k);change match (hdE S r k).1 with|none=>_|some p=>_ at this
 rw[h]at this;have h1:k<=p/\p<k+(S.n-k):=⟨this.2.1,this.2.2.1⟩
 omega
theorem zwN{S':HX}(hI:InvH a n R S)(h:stE S r k=some S'):InvH a n R S':=by
 unfold stE at h;split at h
 .cases h
 .rename_i p hp
  have hr:=ze0 hp;have en:=hI.en;split at h
  .cases h
  .cases h
   exact znV (hI.swap (by omega) (by omega)) _ (by omega)
theorem zpx(hI:InvH a n R S):∀ t,InvH a n R (itE S r k t)
 |0=>hI
 |t+1=>by
  have ih:=zpx hI t;rw[itE];split
  .rename_i S' h;exact zwN ih h
  .exact ih
theorem zu0(hI:InvH a n R S):InvH a n R (zb1 S r k):=by
 unfold zb1;split
 .exact hI.turn k
 .exact hI
theorem zu1(hI:InvH a n R S):InvH a n R (Yj S r k).1:=by
 unfold Yj;split
 .exact hI
 .rename_i p hp
  have hr:=ze0 hp;have en:=hI.en;exact zoi (zu0 (hI.swap (by omega) (by omega))) (by omega) _ (Qd _)
theorem zu2(hI:InvH a n R S):InvH a n R (ZO S r k).1:=zu1 (zpx hI _)
theorem ztx:InvH a n R (zl1 a n R) where
 en:=rfl
 eR:=rfl
 hau:=fun r hr c hc=>by
  show a r c=smI (fun k=>a r k*zaS k c) n;rw[zca hc fun j _ hne=>by unfold zaS;rw[Qb hne,waF]];unfold zaS;rw[Qc rfl,wbh]
 uv:=fun i j hi hj=>by
  show smI (fun k=>zaS i k*zaS k j) n=_;rw[zca hi fun q _ hne=>by unfold zaS;rw[Qb (fun h=>hne h.symm),wbc]];unfold zaS;rw[Qc rfl,wcq]
 vu:=fun i j hi hj=>by
  show smI (fun k=>zaS i k*zaS k j) n=_;rw[zca hi fun q _ hne=>by unfold zaS;rw[Qb (fun h=>hne h.symm),wbc]];unfold zaS;rw[Qc rfl,wcq]
theorem znp:∀ r,InvH a n R (QF a n R r).1
 |0=>ztx
 |r+1=>zu2 (znp r)
theorem znq{q p:Nat}(hp:k<=p)(Uv:p<S.n)(h0:∀ c,k<=c->c<S.n->S.h q c=0)(c:Nat):(S.swap p k).h q c=S.h q c:=by
 show S.h q (swN p k c)=S.h q c;unfold swN;split
 .rename_i e;rw[h0 k (Qd _) (by omega),e,h0 p hp Uv]
 .split
  .rename_i e;rw[h0 p hp Uv,e,h0 k (Qd _) (by omega)]
  .rfl
theorem znr{q i:Nat}{z:Int}(h0:S.h q k=0)(c:Nat):(S.less k i z).h q c=S.h q c:=by
 show(if c=i then S.h q c-z*S.h q k else S.h q c)=S.h q c;rw[h0,waF,Int.sub_zero];split<;>rfl
theorem zkr{q:Nat}(h0:S.h q k=0):∀ m c,(ZG S r k m).h q c=S.h q c
 |0,_=>rfl
 |m+1,c=>by
  show((ZG S r k m).less k (k+1+m) _).h q c=_;rw[znr (by rw[zkr h0 m];exact h0),zkr h0 m]
theorem zks{q:Nat}(h0:S.h q k=0):∀ m c,(Zy S r k m).h q c=S.h q c
 |0,_=>rfl
 |m+1,c=>by
  show((Zy S r k m).less k m _).h q c=_;rw[znr (by rw[zks h0 m];exact h0),zks h0 m]
theorem zu3{q:Nat}{S':HX}(h0:∀ c,k<=c->c<S.n->S.h q c=0)(h:stE S r k=some S')(c:Nat):S'.h q c=S.h q c:=by
 unfold stE at h;split at h
 .cases h
 .rename_i p hp
  have hr:=ze0 hp;split at h
  .cases h
  .cases h
   have:=znq (p:=p) hr.1 hr.2 h0;rw[zkr (by rw[this];exact h0 k (Qd _) (by omega)),this]
theorem zoj{q:Nat}(h0:∀ c,k<=c->c<S.n->S.h q c=0):∀ t c,(itE S r k t).h q c=S.h q c
 |0,_=>rfl
 |t+1,c=>by
  have ih:=zoj h0 t;have hd:=(zc8 (S:=S) (r:=r) (k:=k) t).1;rw[itE];split
  .rename_i S' h
   rw[zu3 (fun c hc XC=>by rw[ih];exact h0 c hc (by omega)) h,ih]
  .exact ih c
theorem zty{q:Nat}(h0:S.h q k=0)(c:Nat):(zb1 S r k).h q c=S.h q c:=by
 unfold zb1;split
 .show(if c=k then -(S.h q c)else S.h q c)=_
  split
  .rename_i e;rw[e,h0];rfl
  .rfl
 .rfl
theorem ztz{q:Nat}(h0:∀ c,k<=c->c<S.n->S.h q c=0)(c:Nat):(Yj S r k).1.h q c=S.h q c:=by
 unfold Yj;split
 .rfl
 .rename_i p hp
  have hr:=ze0 hp;have h1:=znq (p:=p) hr.1 hr.2 h0;have h2:(S.swap p k).h q k=0:=by rw[h1];exact h0 k (Qd _) (by omega)
  have h3:=zty (r:=r) h2;show(Zy (zb1 (S.swap p k) r k) r k k).h q c=_;rw[zks (by rw[h3];exact h2),h3,h1]
theorem ztA{q:Nat}(h0:∀ c,k<=c->c<S.n->S.h q c=0)(c:Nat):(ZO S r k).1.h q c=S.h q c:=by
 unfold ZO;have h1:=zoj (r:=r) h0 (fuE S r k);have hd:=(zc8 (S:=S) (r:=r) (k:=k) (fuE S r k)).1;rw[ztz (fun c hc XC=>by rw[h1];exact h0 c hc (by omega)),h1]
theorem zok:∀ m c,m<=k->(Zy S r k m).h r c=if c<m then S.h r c-Int.fdiv (S.h r c) (S.h r k)*S.h r k else S.h r c
 |0,c,_=>by rw[Qb (waO _)];rfl
 |m+1,c,h=>by
  have ih:=fun c=>zok m c (by omega)
  have hk:(Zy S r k m).h r k=S.h r k:=by rw[ih,Qb (by omega)]
  have hm:(Zy S r k m).h r m=S.h r m:=by rw[ih,Qb (by omega)]
  show(if c=m then(Zy S r k m).h r c-Int.fdiv ((Zy S r k m).h r m) ((Zy S r k m).h r k)*(Zy S r k m).h r k else(Zy S r k m).h r c)=_;rw[hk,hm];by_cases e:c=m
  .rw[Qc e,Qc (by omega),e,hm]
  .rw[Qb e,ih]
   by_cases e2:c<m
   .rw[Qc e2,Qc (by omega)]
   .rw[Qb e2,Qb (by omega)]
theorem zu4(YN:stE S r k=none)(hk:k<=S.n) :
  ((Yj S r k).2=false/\∀ c,k<=c->c<S.n->(Yj S r k).1.h r c=0) \/
  ((Yj S r k).2=true/\k<S.n/\0<(Yj S r k).1.h r k/\(∀ c,k<c->c<S.n->(Yj S r k).1.h r c=0)/\∀ c,c<k->0<=(Yj S r k).1.h r c/\(Yj S r k).1.h r c<(Yj S r k).1.h r k):=by
 have Xe:=zbK (S.h r) k (S.n-k);change match (hdE S r k).1 with|none=>(hdE S r k).2=0/\_|some p=>1<=(hdE S r k).2/\_/\_/\_/\_/\((hdE S r k).2=1↔_)at Xe
 unfold stE at YN;unfold Yj;cases hp:(hdE S r k).1 with
 |none =>
  rw[hp]at Xe;left;exact⟨rfl,fun c h1 h2=>Xe.2 c h1 (by omega)⟩
 |some p =>
  rw[hp]at Xe YN;obtain⟨h1,h2,h3,h4,h5,h6⟩:=Xe;have Ux:(hdE S r k).2=1:=by
   by_cases c:(hdE S r k).2=1
   .exact c
   .simp only[Qb c]at YN;cases YN
  have hz:=h6.1 Ux;right;have KC:∀ c,(S.swap p k).h r c=S.h r (swN p k c):=fun c=>rfl
  have FV:(S.swap p k).h r k=S.h r p:=by
   rw[KC];unfold swN;split
   .rename_i e;rw[e]
   .rw[Qc rfl]
  have GY:∀ c,k<c->c<S.n->(S.swap p k).h r c=0:=fun c hc XC=>by
   rw[KC];unfold swN;split
   .rename_i e
    by_cases ek:k=p
    .omega
    .exact hz k (Qd _) (by omega) ek
   .rename_i e
    rw[Qb (by omega)];exact hz c (by omega) (by omega) e
  obtain⟨S1,E7⟩:∃ S1,S1=zb2 S r k p:=⟨_,rfl⟩
  have Ng:0<S1.h r k/\∀ c,k<c->c<S.n->S1.h r c=0:=by
   rw[E7];unfold zb2 zb1;by_cases hn:(S.swap p k).h r k<0
   .rw[Qc hn]
    refine⟨?_,fun c hc XC=>?_⟩
    .show 0<(if k=k then -((S.swap p k).h r k)else _);rw[Qc rfl];omega
    .show(if c=k then _ else(S.swap p k).h r c)=0;rw[Qb (by omega)];exact GY c hc XC
   .rw[Qb hn]
    refine⟨?_,GY⟩;rw[FV]at hn ⊢;omega
  have hl:=fun c=>zok (S:=S1) (r:=r) (k:=k) k c (Qd _)
  show true=true/\k<S.n/\0<(Zy (zb2 S r k p) r k k).h r k/\(∀ c,k<c->c<S.n->(Zy (zb2 S r k p) r k k).h r c=0)/\∀ c,c<k->0<=(Zy (zb2 S r k p) r k k).h r c/\(Zy (zb2 S r k p) r k k).h r c<(Zy (zb2 S r k p) r k k).h r k;rw[<-E7];have VJ:(Zy S1 r k k).h r k=S1.h r k:=by rw[hl,Qb (wa8 _)]
  refine⟨rfl,by omega,by rw[VJ];exact Ng.1,fun c hc XC=>by rw[hl,Qb (by omega)];exact Ng.2 c hc XC,fun c hc=>?_⟩;rw[VJ,hl,Qc hc];exact zfW Ng.1
end
theorem zj7(x y:Int):(Int.fdiv x y).natAbs<=x.natAbs+1:=by
 by_cases hy:y=0
 .rw[hy,wdX];omega
 .have h:=zo9 (x:=x) hy
  have WG:1<=y.natAbs:=by omega
  generalize (Int.fdiv x y).natAbs=q at *
  generalize y.natAbs=b at *
  rcases was (x.natAbs+1) q with c|c
  .have h1:(x.natAbs+2)*b<=q*b:=wak _ (by omega)
   have h2:(x.natAbs+2)*b=x.natAbs*b+2*b:=by rw[war]
   have h3:x.natAbs*1<=x.natAbs*b:=waz _ WG;omega
  .exact c
section
variable {n R r k:Nat} {S:HX}
theorem zpJ:∀ m,m<=k->(∀ p c,(Zy S r k m).h p c=if c<m then S.h p c-Int.fdiv (S.h r c) (S.h r k)*S.h p k else S.h p c)/\(∀ p c,(Zy S r k m).u p c=if c<m then S.u p c-Int.fdiv (S.h r c) (S.h r k)*S.u p k else S.u p c) /\
  ∀ p c,(Zy S r k m).v p c=if p=k then S.v k c+smI (fun i=>Int.fdiv (S.h r i) (S.h r k)*S.v i c) m else S.v p c
 |0,_=>⟨fun p c=>by rw[Qb (waO _)];rfl,fun p c=>by rw[Qb (waO _)];rfl,fun p c=>by
   show S.v p c=_;split
   .rename_i e;rw[e];show _=S.v k c+0;omega
   .rfl⟩
 |m+1,h=>by
  obtain⟨h1,h2,h3⟩:=zpJ m (by omega);have hq:Int.fdiv ((Zy S r k m).h r m) ((Zy S r k m).h r k)=Int.fdiv (S.h r m) (S.h r k):=by rw[h1,h1,Qb (wa8 _),Qb (by omega)]
  have e:Zy S r k (m+1)=(Zy S r k m).less k m (Int.fdiv (S.h r m) (S.h r k)):=by rw[<-hq];rfl
  rw[e];refine⟨fun p c=>?_,fun p c=>?_,fun p c=>?_⟩
  .show(if c=m then(Zy S r k m).h p c-_*(Zy S r k m).h p k else(Zy S r k m).h p c)=_
   rw[h1,h1,Qb (show ¬k<m by omega)];by_cases e:c=m
   .rw[Qc e,Qb (by omega),Qc (by omega),e]
   .rw[Qb e]
    by_cases e2:c<m
    .rw[Qc e2,Qc (by omega)]
    .rw[Qb e2,Qb (by omega)]
  .show(if c=m then(Zy S r k m).u p c-_*(Zy S r k m).u p k else(Zy S r k m).u p c)=_
   rw[h2,h2,Qb (show ¬k<m by omega)];by_cases e:c=m
   .rw[Qc e,Qb (by omega),Qc (by omega),e]
   .rw[Qb e]
    by_cases e2:c<m
    .rw[Qc e2,Qc (by omega)]
    .rw[Qb e2,Qb (by omega)]
  .show(if p=k then(Zy S r k m).v p c+_*(Zy S r k m).v m c else(Zy S r k m).v p c)=_
   rw[h3,h3,Qb (show ¬m=k by omega)];by_cases e:p=k
   .rw[Qc e,Qc e,Qc e]
    show S.v k c+smI (fun i=>Int.fdiv (S.h r i) (S.h r k)*S.v i c) m+Int.fdiv (S.h r m) (S.h r k)*S.v m c=S.v k c+(smI (fun i=>Int.fdiv (S.h r i) (S.h r k)*S.v i c) m+Int.fdiv (S.h r m) (S.h r k)*S.v m c);omega
   .rw[Qb e,Qb e,Qb e]
theorem zwY{E Q:Nat}(hB:BdH n R E S)(hk:k<n)(hQ:∀ c,c<k->(Int.fdiv (S.h r c) (S.h r k)).natAbs<=Q){m:Nat}(hm:m<=k):BdH n R (E*(1+n*Q)) (Zy S r k m):=by
 obtain⟨h1,h2,h3⟩:=zpJ (S:=S) (r:=r) (k:=k) m hm;have YZ:E*(1+Q)<=E*(1+n*Q):=waz _ (wcz (wcA _ (by omega)) _);have VY:E<=E*(1+n*Q):=wb4 _ (by omega);refine⟨fun p c hp hc=>?_,fun p c hp hc=>?_,fun p c hp hc=>?_⟩
 .rw[h1]
  split
  .rename_i e
   exact Qn (zie (hB.h p c hp hc) (hB.h p k hp hk) (hQ c (by omega))).1 YZ
  .exact Qn (hB.h p c hp hc) VY
 .rw[h2]
  split
  .rename_i e
   exact Qn (zie (hB.u p c hp hc) (hB.u p k hp hk) (hQ c (by omega))).1 YZ
  .exact Qn (hB.u p c hp hc) VY
 .rw[h3]
  split
  .have h4:=hB.v k c hk hc
   have h5:=zgb (f:=fun i=>Int.fdiv (S.h r i) (S.h r k)*S.v i c) (K:=Q*E) (n:=m) fun i hi=>by
    rw[wbb];exact waB (hQ i (by omega)) (hB.v i c (by omega) hc)
   have h6:m*(Q*E)<=n*(Q*E):=wak _ (by omega);have h7:E*(1+n*Q)=E+n*(Q*E):=by rw[waf,wah,wc0,Qt E Q]
   omega
  .exact Qn (hB.v p c hp hc) VY
theorem zwZ{E:Nat}(hB:BdH n R E S):BdH n R E (zb1 S r k):=by
 unfold zb1;split
 .refine⟨fun p c hp hc=>?_,fun p c hp hc=>?_,fun p c hp hc=>?_⟩
  .have:=hB.h p c hp hc
   show(if c=k then -(S.h p c)else S.h p c).natAbs<=E;split<;>omega
  .have:=hB.u p c hp hc
   show(if c=k then -(S.u p c)else S.u p c).natAbs<=E;split<;>omega
  .have:=hB.v p c hp hc
   show(if p=k then -(S.v p c)else S.v p c).natAbs<=E;split<;>omega
 .exact hB
structure BdRow(n R E:Nat)(S:HX)(r k:Nat):Prop where
 stop:stE (itE S r k (fuE S r k)) r k=none
 go:∀ t,t<fuE S r k->stE (itE S r k t) r k≠none
 it:∀ t,BdH n R E (itE S r k t)
 red:∀ t p m,(hdE (itE S r k t) r k).1=some p->k+1+m<=n->BdH n R E (ZG ((itE S r k t).swap p k) r k m)
 piv:∀ t p,(hdE (itE S r k t) r k).1=some p->BdH n R E ((itE S r k t).swap p k)
 lef:∀ t p m,(hdE (itE S r k t) r k).1=some p->m<=k->BdH n R E (Zy (zb2 (itE S r k t) r k p) r k m)
theorem BdRow.out{E:Nat}(h:BdRow n R E S r k):BdH n R E (ZO S r k).1:=by
 unfold ZO Yj;split
 .exact h.it _
 .rename_i p hp
  exact h.lef _ p k hp (Qd _)
theorem zoq(hd:(hdE S r k).1=none):fuE S r k=0/\stE S r k=none/\ZO S r k=(S,false):=by
 have h1:stE S r k=none:=by unfold stE;rw[hd]
 have h0:fuE S r k=0:=by unfold fuE;rw[hd];rfl
 refine⟨h0,h1,?_⟩;unfold ZO;rw[h0];show Yj S r k=_;unfold Yj;rw[hd]
theorem zpK{E:Nat}(hB:BdH n R E S)(hd:(hdE S r k).1=none):BdRow n R E S r k:=by
 obtain⟨h0,h1,_⟩:=zoq hd;have JC:=ziL h1;refine⟨by rw[h0];exact h1,fun t ht=>by omega,fun t=>by rw[JC];exact hB,fun t p m h=>?_,fun t p h=>?_,fun t p m h=>?_⟩;all_goals(rw[JC,hd]at h;cases h)
theorem zyo{E b D E1:Nat}(en:S.n=n)(hr:r<R)(hk:k<n)(hE:1<=E)(EK:D=2*n+1)(hD:D*D<=2^b)(R6:E1=E*(D*E*E^b))(hB:BdH n R E S):BdRow n R (E1*(1+n*(E1+1))) S r k:=by
 have Pq:E<=E1:=by
  rw[R6];refine wb4 _ (wcI (wcI (by omega) (by omega)) (waZ (by omega)))
 have Nq:E1<=E1*(1+n*(E1+1)):=wb4 _ (by omega);cases hd:(hdE S r k).1 with
 |none=>exact zpK (hB.mono (Qn Pq Nq)) hd
 |some p =>
  have Hs:=ze0 hd;have Xe:=zbK (S.h r) k (S.n-k);change match (hdE S r k).1 with|none=>_|some p=>_ at Xe
  rw[hd]at Xe;have WZ:∀ c,k<=c->c<n->(S.h r c).natAbs<=E:=fun c _ hc=>hB.h r c hr hc
  have hH:Hd S n r k (S.h r p).natAbs E:=⟨en,⟨p,hd,rfl⟩,WZ⟩
  have Fn:(S.h r p).natAbs<=E:=WZ p Hs.1 (by omega);have JC:∀ t,BdH n R E1 (itE S r k t):=fun t=>by
   refine(zzh hk EK hD _ S E E hH hB t).mono ?_;rw[R6];exact waz _ (waz _ (wcn Fn _))
  obtain⟨T,Uf,Wv,K7⟩:=zw6 (R:=R) hk _ S E E hH hB;have Ml:fuE S r k=T:=by
   unfold fuE;rw[hd];exact zqh _ S T Uf Wv K7
  have Xi:=fun t=>(zc8 (S:=S) (r:=r) (k:=k) t).1
  have KC:∀ t p,(hdE (itE S r k t) r k).1=some p->BdH n R E1 ((itE S r k t).swap p k):=fun t p h=>by
   have h1:=ze0 h;have h2:=Xi t;exact(JC t).swap (by omega) hk
  refine⟨by rw[Ml];exact K7,by rw[Ml];exact Wv,fun t=>(JC t).mono Nq,fun t p m h hm=>?_,fun t p h=>(KC t p h).mono Nq,fun t p m h hm=>?_⟩
  .exact zpb (KC t p h) hk (fun c _ hc=>Qn (zj7 _ _) (Nat.add_le_add_right ((KC t p h).h r c hr hc) 1)) m hm
  .have h3:BdH n R E1 (zb2 (itE S r k t) r k p):=zwZ (KC t p h)
   exact zwY h3 hk (fun c hc=>Qn (zj7 _ _) (Nat.add_le_add_right (h3.h r c hr (by omega)) 1)) hm
end
theorem zw0{n e E1:Nat}(hn:n<=6)(R6:E1=2^e*((2*n+1)*2^e*(2^e)^8)):E1*(1+n*(E1+1))<=2^(20*e+11):=by
 obtain⟨x,hx⟩:∃ x,x=2^e:=⟨_,rfl⟩
 have KK:1<=x:=by rw[hx];exact waZ (by decide)
 have hp:2^(20*e+11)=x^20*2048:=by rw[wbe,Qt 20 e,wcm,<-hx]
 rw[<-hx]at R6;have We:E1<=13*x^10:=by
  have e1:E1=(2*n+1)*x^10:=by
   rw[R6,show x^10=x*(x*x^8) by rw[<-wd4,<-wd4]];rw[wae,wc0]
  rw[e1];exact wak _ (by omega)
 have WG:1<=x^10:=waZ (by omega);obtain⟨y,hy⟩:∃ y,y=x^10:=⟨_,rfl⟩
 rw[<-hy]at We WG;have Pr:x^20=y*y:=by rw[hy,<-wbe]
 rw[hp,Pr];have h2:1+n*(E1+1)<=91*y:=by
  have:n*(E1+1)<=6*(13*y+1):=waB hn (by omega);omega
 calc E1*(1+n*(E1+1))<=(13*y)*(91*y):=waB We h2
  _=(13*91)*(y*y):=by rw[Nat.mul_mul_mul_comm]
  _<=2048*(y*y):=wak _ (by decide)
  _=y*y*2048:=Qt _ _
theorem BdRow.mono{n R r k E E':Nat}{S:HX}(h:BdRow n R E S r k)(he:E<=E'):BdRow n R E' S r k :=
 ⟨h.stop,h.go,fun t=>(h.it t).mono he,fun t p m a b=>(h.red t p m a b).mono he,fun t p a=>(h.piv t p a).mono he,fun t p m a b=>(h.lef t p m a b).mono he⟩
theorem zrt{n R r k E:Nat}{S:HX}(en:S.n=n)(hk:k<n)(hB:∀ t,BdH n R E (itE S r k t))(hr:r<R)(h0:∃ c,k<=c/\c<n/\S.h r c≠0):∀ t,∃ c,k<=c/\c<n/\(itE S r k t).h r c≠0
 |0=>h0
 |t+1=>by
  obtain⟨c,h1,h2,h3⟩:=zrt en hk hB hr h0 t;have hd:=zc8 (S:=S) (r:=r) (k:=k) t;obtain⟨m,hH,_⟩:=zjD (s:=E) (hd.1.trans en) h1 h2 h3 fun c _ hc=>(hB t).h r c hr hc
  rw[itE];split
  .rename_i S' hs
   obtain⟨_,X6,_,_,_,y,hy,Ko,_⟩:=ziK hH hk (hB t) hs;exact⟨k,Qd _,hk,by rw[Ko];omega⟩
  .exact⟨c,h1,h2,h3⟩
theorem zmP{a:Nat->Nat->Int}{n R:Nat}(q:Nat):(QF a n R q).2<=(QF a n R (q+1)).2:=by
 have e:(QF a n R (q+1)).2=if(ZO (QF a n R q).1 q (QF a n R q).2).2 then(QF a n R q).2+1 else(QF a n R q).2:=rfl
 rw[e];split<;>omega
section
variable {S:HX} {pv:Nat->Int} {kk:Nat->Nat} {b:Nat->Int} {n R H B:Nat}
theorem zxC(hH:∀ r c,r<R->c<n->(S.h r c).natAbs<=H)(hb:∀ r,(b r).natAbs<=B)(hn:n<=6)(X5:1<=H)(RG:1<=B)(hk:∀ r,kk r<=n)(Vd:kk 0=0)(XQ:∀ r,r<R->(pv r<0/\kk (r+1)=kk r)\/(¬pv r<0/\kk (r+1)=kk r+1)) :
  ∀ r,r<=R->(∀ j,(ZD S pv kk b r j).natAbs<=B*(16*H)^kk r)/\(r<R->(zav S pv kk b r).natAbs+1<=B*(16*H)^(kk r+1)):=by
 have V4:∀ r,r<R->(∀ j,(ZD S pv kk b r j).natAbs<=B*(16*H)^kk r)->(zav S pv kk b r).natAbs+1<=B*(16*H)^(kk r+1):=fun r hr hy=>by
  obtain⟨Y,hY⟩:∃ Y,Y=B*(16*H)^kk r:=⟨_,rfl⟩
  rw[<-hY]at hy;have h1:B<=Y:=by rw[hY];exact wb4 _ (waZ (by omega))
  have h2:=zgb (f:=fun i=>S.h r i*ZD S pv kk b r i) (K:=H*Y) (n:=kk r) fun i hi=>by
   have:=hk r;rw[wbb];exact waB (hH r i hr (by omega)) (hy i)
  have h3:kk r*(H*Y)<=6*(H*Y):=wak _ (by have:=hk r;omega);have h4:=hb r;have h5:B*(16*H)^(kk r+1)=16*(H*Y):=by rw[waP,<-wae,<-hY,wc0,Qt Y H]
  have h6:1*Y<=H*Y:=wak _ X5;have h7:(zav S pv kk b r).natAbs<=(b r).natAbs+(smI (fun i=>S.h r i*ZD S pv kk b r i) (kk r)).natAbs:=by
   show(b r-smI (fun i=>S.h r i*ZD S pv kk b r i) (kk r)).natAbs<=_;omega
  rw[h5];omega
 intro r
 induction r with
 |zero =>
  intro _;have h0:∀ j,(ZD S pv kk b 0 j).natAbs<=B*(16*H)^kk 0:=fun j=>by
   show(0:Int).natAbs<=_;simp
  exact⟨h0,fun h=>V4 0 h h0⟩
 |succ r ih =>
  intro hr;obtain⟨h1,h2⟩:=ih (by omega);have h2:=h2 (by omega);have h3:∀ j,(ZD S pv kk b (r+1) j).natAbs<=B*(16*H)^kk (r+1):=fun j=>by
   have e:ZD S pv kk b (r+1) j=(if pv r<0 then ZD S pv kk b r else fun j=>if j=kk r then Int.fdiv (zav S pv kk b r) (S.h r (kk r))else ZD S pv kk b r j) j:=rfl;rw[e];rcases XQ r (by omega)with⟨hp,Vr⟩|⟨hp,Vr⟩
   .rw[Qc hp,Vr];exact h1 j
   .rw[Qb hp,Vr]
    show(if j=kk r then _ else ZD S pv kk b r j).natAbs<=_;split
    .exact Qn (zj7 _ _) h2
    .refine Qn (h1 j) (waz _ ?_)
     exact waT (by omega) (by omega)
  exact⟨h3,fun h=>V4 (r+1) h h3⟩
end
theorem zo0{A:Nat->Int}{x:Nat->Int}{D:Rat}{m:Nat}:smQ (fun d=>(A d:Rat)/D*(x d:Rat)) m=((smI (fun d=>A d*x d) m:Int):Rat)/D:=by
 induction m with
 |zero=>show(0:Rat)=((0:Int):Rat)/D;rw[show((0:Int):Rat)=0 from rfl,wbU,wbC]
 |succ m ih =>
  show smQ _ m+(A m:Rat)/D*(x m:Rat)=((smI _ m+A m*x m:Int):Rat)/D;rw[ih,wcu,wbV,wbU,wbU,wbU]
  grind
def zfJ(R n:Nat)(g g':Nat->Nat->Int):Prop:=∃ w:Nat->Nat->Int,∀ r,r<R->∀ c,c<n->g r c=smI (fun j=>g' r j*w j c) n
theorem zfJ.trans{R n:Nat}{g g' g2:Nat->Nat->Int}(h1:zfJ R n g g')(h2:zfJ R n g' g2):zfJ R n g g2:=by
 obtain⟨w,h1⟩:=h1;obtain⟨w',h2⟩:=h2;refine⟨fun l c=>smI (fun j=>w' l j*w j c) n,fun r hr c hc=>?_⟩;rw[h1 r hr c hc];have e:∀ j,j<n->g' r j*w j c=smI (fun l=>g2 r l*w' l j*w j c) n:=fun j hj=>by
  rw[h2 r hr j hj,waI,<-Yp];exact Zm fun l _=>waI _ _
 rw[Zm e,ze2];refine Zm fun l _=>?_
 rw[<-Yp];exact Zm fun j _=>wbP _ _ _
theorem zfJ.refl{R n:Nat}(g:Nat->Nat->Int):zfJ R n g g :=
 ⟨fun j c=>if j=c then 1 else 0,fun r _ c hc=>by rw[zca (f:=fun j=>g r j*if j=c then 1 else 0) hc fun j _ hj=>by rw[Qb hj,waF],Qc rfl,wbh]⟩
theorem InvH.cols'{a:Nat->Nat->Int}{n R:Nat}{S:HX}(h:InvH a n R S):zfJ R n a S.h:=by
 refine⟨S.v,fun r hr c hc=>?_⟩;have e:∀ j,j<n->S.h r j*S.v j c=smI (fun l=>a r l*S.u l j*S.v j c) n:=fun j hj=>by
  rw[h.hau r hr j hj,waI,<-Yp];exact Zm fun l _=>waI _ _
 rw[Zm e,ze2];have e2:∀ l,l<n->smI (fun j=>a r l*S.u l j*S.v j c) n=a r l*(if l=c then 1 else 0):=fun l hl=>by
  rw[<-h.uv l c hl hc,<-Yp];exact Zm fun j _=>wbP _ _ _
 rw[Zm e2,zca hc fun j _ hj=>by rw[Qb hj,waF],Qc rfl,wbh]
section
variable {g g':Nat->Nat->Int} {R n:Nat} {k k':Nat->Nat}
theorem Shp.step(h:Shp g R n k){i:Nat}(hi:i<R):(k (i+1)=k i/\(k i<n->g i (k i)=0))\/(k i<n/\0<g i (k i)/\k (i+1)=k i+1):=by
 by_cases c:n<=k i
 .exact .inl ⟨h.out i hi c,fun h=>by omega⟩
 .by_cases c2:g i (k i)=0
  .exact .inl ⟨h.zero i hi (by omega) c2,fun _=>c2⟩
  .have h3:=h.nonneg i hi (by omega)
   exact .inr ⟨by omega,by omega,(h.piv i hi (by omega) (by omega)).1⟩
theorem Shp.mono(h:Shp g R n k){i:Nat}:∀ {j:Nat},i<=j->j<=R->k i<=k j
 |0,h1,_=>by
  obtain rfl:i=0:=by omega
  exact Qd _
 |j+1,h1,h2=>by
  by_cases c:i=j+1
  .rw[c];exact Qd _
  .have:=h.mono (i:=i) (j:=j) (by omega) (by omega)
   rcases h.step (i:=j) (by omega)with⟨e,_⟩|⟨_,_,e⟩<;>omega
theorem Shp.sum(h:Shp g R n k){x:Nat->Int}{r:Nat}(hr:r<R)(hx:∀ j,j<k r->x j=0):smI (fun j=>g r j*x j) n=if k r<n then g r (k r)*x (k r)else 0:=by
 by_cases c:k r<n
 .rw[Qc c]
  refine zca (f:=fun j=>g r j*x j) c fun j hj hne=>?_
  show g r j*x j=0;rcases was j (k r)with h1|h1
  .rw[hx j h1,waF]
  .rw[h.right r j hr (by omega) hj,wbc]
 .rw[Qb c]
  exact zcv fun j hj=>by rw[hx j (by omega),waF]
end
end Go.Abs
