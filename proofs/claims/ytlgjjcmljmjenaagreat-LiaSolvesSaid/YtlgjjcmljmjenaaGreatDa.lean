/- At every input the call answers true and leaves its arguments as they were; no conditions. -/
import Derived.Test.YtlgjjcmljmjenaaGreatCb
import Derived.Test.YtlgjjcmljmjenaaGreatAg
import Derived.Test.YtlgjjcmljmjenaaGreatNb
set_option linter.unusedSimpArgs false
set_option linter.unusedVariables false
set_option maxRecDepth 100000
set_option maxHeartbeats 32000000
namespace Go.Proofs.YtlgjjcmljmjenaaGreat
open Go Go.Abs Go.Proofs.Tryz
def cI1(v:Nat):List T:=[.lit (.int .i64 (v:Int))]
theorem ZW(v:Nat):(cI1 v).length=1:=rfl
attribute [go_sem] cI1
def zb3(b:Nat)(S:SX):List C:=[QX (b+1) 1 (fnG S.R S.rw),QX (b+2) 1 (fnG S.n S.cl),cvC (b+3) S.R,.t (.lit (.int .i64 (S.n:Int))),QX (b+4) 3 (fnG S.R S.mo),.vec (b+5) 3 0 (S.n+S.R)]
def Zp(b:Nat)(S:SX):List (Nat×List C) :=
 zae (b+100) cR (fun i=>fnG S.n (S.a i)) S.R++(Zb (b+1) cI1 (fnG S.R S.rw)++(Zb (b+2) cI1 (fnG S.n S.cl)++(cvE (b+3) S.R (rowsC (b+100) 3 S.n S.R)++(Zb (b+4) cR (fnG S.R S.mo)++[(b,zb3 b S),(b+5,Q5 cR (fnG (S.n+S.R) S.va))]))))
def Z5(b:Nat)(S:SX)(e:List (Nat×List C)):List (Nat×List C):=Zp b S++e
theorem zkO(b:Nat)(S:SX):Z5 b S []=Zp b S:=wal _
def xS(S:SX):QD:=QB (Z5 PIN S [])
theorem zbB(S:SX):xS S=QB (Zp PIN S):=by unfold xS;rw[zkO]
theorem zf0(b:Nat)(S:SX):(Zp b S).map (·.1)=zco (b+100) S.R++(cvD (b+1) S.R++(cvD (b+2) S.n++(cvD (b+3) S.R++(cvD (b+4) S.R++[b,b+5])))):=by
 unfold Zp;rw[waG,waG,waG,waG,waG,zk0,zk7,zk7,zv5,zk7,zlc,zlc,zlc];rfl
theorem zes{b k:Nat}{S:SX}(h:k∈(Zp b S).map (·.1)):b<=k/\k<b+100+S.R:=by
 rw[zf0]at h;have Gg:∀ {c n:Nat},k∈cvD c n->k=c:=fun {c n} h=>by
  unfold cvD at h;split at h
  .cases h
  .exact Qr.1 h
 rcases wan.1 h with h|h
 .unfold zco at h
  obtain⟨i,hi,rfl⟩:=Qp.1 h;have:=waJ.1 hi;omega
 .rcases wan.1 h with h|h
  .have:=Gg h;omega
  .rcases wan.1 h with h|h
   .have:=Gg h;omega
   .rcases wan.1 h with h|h
    .have:=Gg h;omega
    .rcases wan.1 h with h|h
     .have:=Gg h;omega
     .rcases wab.1 h with h|h
      .omega
      .have:=Qr.1 h;omega
theorem zet(S:SX)(b:Nat)(h:b<PIN):xS S b=none:=by rw[zbB];exact zdQ (fun k hk=>(zes hk).1) b h
theorem zfc{S S':SX}(h1:S'.n=S.n)(h2:S'.R=S.R)(b:Nat):xS S' b=none↔xS S b=none:=by
 rw[zbB,zbB,zbi,zbi,zf0,zf0,h1,h2]
theorem zkP(b:Nat)(S:SX):QT ((Zp b S).map (·.1)) (Zp b S)=true:=by
 rw[zf0];unfold Zp;have hD:∀ {D:List Nat} {c n:Nat},(n==0||(cvD c n++D).contains c)=true:=fun {D c n}=>by
  rw[zsb];by_cases h:n=0
  .simp[h]
  .simp[h]
 have hm:∀ {D D':List Nat} {n c:Nat},(n==0||D.contains c)=true->(n==0||(D'++D).contains c)=true:=fun {D D' n c} h=>by
  rw[wbE]at h ⊢;rcases h with h|h
  .exact .inl h
  .right;rw[waE]at h ⊢;exact wbB _ h
 rw[zkA,ziI,ziI,zum,ziI,zke];rw[wcY,wbo];unfold zb3;simp only[QT,wdQ,List.all_nil,zug,zun,zwC,ztq,zmV,QH,wcC,wbo,wag];refine⟨hm hD,hm (hm hD),hm (hm (hm hD)),hm (hm (hm (hm hD))),?_⟩;rw[waE];exact wbB _ (wbB _ (wbB _ (wbB _ (wbB _ (by simp)))))
theorem zdV(S:SX):∀ b cs,xS S b=some cs->∀ c∈cs,inC (xS S) c:=by rw[zbB];exact zb9 (zkP PIN S)
theorem zfy{S:SX}:inA (xS S) (.one (.ptr PIN 0)):=by
 show xS S PIN≠none;rw[zbB,Ne,zbi,zf0];intro h;exact h (by simp)
theorem ZR(b:Nat)(S:SX)(k:Nat):QB (Zp b S) (b+k)=if 100<=k/\k<100+S.R then some (Q5 cR (fnG S.n (S.a (k-100))))else if k=1 then ZM cI1 (fnG S.R S.rw) none else if k=2 then ZM cI1 (fnG S.n S.cl) none
  else if k=3 then(if S.R=0 then none else some (rowsC (b+100) 3 S.n S.R))else if k=4 then ZM cR (fnG S.R S.mo) none else if k=0 then some (zb3 b S)else if k=5 then some (Q5 cR (fnG (S.n+S.R) S.va))else none:=by
 unfold Zp;rw[zcE];by_cases c1:100<=k/\k<100+S.R
 .rw[Qc c1,Qc ⟨by omega,by omega⟩,show b+k-(b+100)=k-100 by omega]
 .rw[Qb c1,Qb (fun h=>c1 ⟨by omega,by omega⟩),ziH,ziH,zul,ziH]
  show(if b+k=b+1 then _ else if b+k=b+2 then _ else if b+k=b+3/\S.R≠0 then _ else if b+k=b+4 then _ else if b+k=b then _ else if b+k=b+5 then _ else none)=_;have KZ:∀ {α:Type} {f:α->List T} {n:Nat} {g:Nat->α} {o:Option (List C)},o=none->ZM f (fnG n g) o=ZM f (fnG n g) none:=fun {α f n g o} h=>by rw[h]
  by_cases k1:k=1
  .subst k1
   rw[Qc rfl,Qc rfl];refine KZ ?_;rw[Qb (by omega),Qb (fun h=>by omega),Qb (by omega),zfN,Qb (by omega),zfN,Qb (by omega)];rfl
  .rw[Qb (by omega),Qb k1]
   by_cases k2:k=2
   .subst k2
    rw[Qc rfl,Qc rfl];refine KZ ?_;rw[Qb (fun h=>by omega),Qb (by omega),zfN,Qb (by omega),zfN,Qb (by omega)];rfl
   .rw[Qb (by omega),Qb k2]
    by_cases k3:k=3
    .subst k3
     rw[Qc rfl];by_cases hR:S.R=0
     .rw[Qb (fun h=>h.2 hR),Qc hR,Qb (by omega),Qb (by omega),Qb (by omega)]
     .rw[Qc ⟨rfl,hR⟩,Qb hR]
    .rw[Qb (fun h=>by omega),Qb k3]
     by_cases k4:k=4
     .subst k4
      rw[Qc rfl,Qc rfl];refine KZ ?_;rw[zfN,Qb (by omega),zfN,Qb (by omega)];rfl
     .rw[Qb (by omega),Qb k4]
      by_cases k0:k=0
      .subst k0
       rw[Qc (by omega),Qc rfl]
      .rw[Qb (by omega),Qb k0]
       by_cases k5:k=5
       .subst k5;rw[Qc rfl,Qc rfl]
       .rw[Qb (by omega),Qb k5]
theorem zkq{α:Type}{f:α->List T}{xs:List α}{θ:Nat->Nat}:(Q5 f xs).map (thC θ)=Q5 f xs:=by
 unfold Q5;rw[wac];rfl
theorem zlq{α:Type}{b sz:Nat}{xs:List α}{θ:Nat->Nat}:thC θ (QX b sz xs)=QX (thI θ b) sz xs:=by cases xs<;>rfl
theorem zye{b n:Nat}{θ:Nat->Nat}:thC θ (cvC b n)=cvC (thI θ b) n:=by unfold cvC;split<;>rfl
theorem zeu{d k:Nat}:thI (fun k=>d+k) (PIN+k)=d+k:=by show d+(PIN+k-PIN)=d+k;omega
theorem zlK(d:Nat)(S:SX)(k:Nat){cs:List C}(h:xS S (PIN+k)=some cs):QB (Zp d S) (d+k)=some (cs.map (thC fun k=>d+k)):=by
 rw[zbB,ZR]at h;rw[ZR];have Vv:∀ {α:Type} {f:α->List T} {xs:List α},ZM f xs none=some cs->ZM f xs none=some (cs.map (thC fun k=>d+k)):=fun {α f xs} h=>by
  cases xs with
  |nil=>cases h
  |cons x xs =>
   have h:some (Q5 f (x::xs))=some cs:=h;cases h
   rw[zkq];rfl
 split
 .rename_i c;rw[Qc c]at h;cases h;rw[zkq]
 .rename_i c;rw[Qb c]at h
  split
  .rename_i c;rw[Qc c]at h;exact Vv h
  .rename_i c;rw[Qb c]at h
   split
   .rename_i c;rw[Qc c]at h;exact Vv h
   .rename_i c;rw[Qb c]at h
    split
    .rename_i c;rw[Qc c]at h
     split
     .rename_i c;rw[Qc c]at h;cases h
     .rename_i c;rw[Qb c]at h;cases h
      rw[zk1 fun i hi=>by rw[zeu,show PIN+100+i=PIN+(100+i) by omega,zeu];omega,zeu]
    .rename_i c;rw[Qb c]at h
     split
     .rename_i c;rw[Qc c]at h;exact Vv h
     .rename_i c;rw[Qb c]at h
      split
      .rename_i c;rw[Qc c]at h;cases h
       show some (zb3 d S)=some [thC _ (QX (PIN+1) 1 (fnG S.R S.rw)),thC _ (QX (PIN+2) 1 (fnG S.n S.cl)),thC _ (cvC (PIN+3) S.R),.t (.lit (.int .i64 (S.n:Int))),thC _ (QX (PIN+4) 3 (fnG S.R S.mo)),.vec (thI (fun k=>d+k) (PIN+5)) 3 0 (S.n+S.R)];rw[zlq,zlq,zye,zlq,zeu,zeu,zeu,zeu,zeu];rfl
      .rename_i c;rw[Qb c]at h
       split
       .rename_i c;rw[Qc c]at h;cases h;rw[zkq]
       .rename_i c;rw[Qb c]at h;cases h
theorem zeI{S:SX}{b:Nat}(h:xS S b≠none):PIN<=b/\b<PIN+100+S.R:=by
 rw[zbB,Ne,zbi]at h;exact zes (wcP.1 h)
def AtS(H:QD)(b:Nat)(S:SX):Prop:=∀ k,k<100+S.R->∀ cs,QB (Zp b S) (b+k)=some cs->H (b+k)=some cs
theorem zhs{F:FuncId}{ys args:List AV}{S:SX}{H:QD}{r:AV}(d:Nat)(h:Zf prog F args (xS S) r (xS S))(YY:ys=args.map (thA (fun k=>d+k)))(YB:∀ x∈args,inA (xS S) x)
  (hH:AtS H d S):RdC prog F ys H (thA (fun k=>d+k) r):=by
 subst YY;have hk:∀ b,PIN<=b->PIN+(b-PIN)=b:=fun b hb=>by omega
 refine zeC (fun k=>d+k) h (zet S) (fun b b' hb hb' e=>?_) (zdV S) YB fun b cs hb=>?_
 .have h1:=zeI hb
  have h2:=zeI hb';have e:d+(b-PIN)=d+(b'-PIN):=e;omega
 .have h1:=zeI (b:=b) (S:=S) (by rw[hb];simp)
  exact hH (b-PIN) (by omega) _ (zlK d S _ (by rw[hk b h1.1];exact hb))
theorem zof{m:Nat}{F:FuncId}{ys args:List AV}{S S':SX}{σ:St}{K:AV->St->Prop}{r:AV}(d:Nat)(hm:m=1\/m=2)(h:Zf prog F args (xS S) r (xS S'))(hn:S'.n=S.n)(hR:S'.R=S.R)(YY:ys=args.map (thA (fun k=>d+k)))(YB:∀ x∈args,inA (xS S) x)
  (hH:AtS σ.H d S) (hK:K (thA (fun k=>d+k) r) (σ.withH (fun t=>(QB (Zp d S') t).or (σ.H t)))):ZK prog m F ys σ K:=by
 have hk:∀ b,PIN<=b->PIN+(b-PIN)=b:=fun b hb=>by omega
 refine zi0 (fun k=>d+k) hm h YY (zet S) (zfc hn hR) (fun b b' hb hb' e=>?_) (zdV S) YB (fun b cs hb=>?_) (fun b cs hb=>?_) (fun b hb=>?_) hK
 .have h1:=zeI hb
  have h2:=zeI hb';have e:d+(b-PIN)=d+(b'-PIN):=e;omega
 .have h1:=zeI (b:=b) (S:=S) (by rw[hb];simp)
  exact hH (b-PIN) (by omega) _ (zlK d S _ (by rw[hk b h1.1];exact hb))
 .have h1:=zeI (b:=b) (S:=S') (by rw[hb];simp)
  show(QB (Zp d S') (d+(b-PIN))).or _=_;rw[zlK d S' _ (by rw[hk b h1.1];exact hb)];rfl
 .show(QB (Zp d S') b).or (σ.H b)=σ.H b
  cases hx:QB (Zp d S') b with
  |none=>rfl
  |some cs =>
   exfalso;have hm:b∈(Zp d S').map (·.1):=waD fun X9=>by rw[zbg X9]at hx;cases hx
   have Fo:=zes hm;have e:d+(b-d)=b:=by omega
   refine hb (PIN+(b-d)) ?_ ?_
   .refine fun KG=>?_
    have Y7:=(zfc hn hR _).2 KG;rw[zbB,ZR]at Y7;rw[<-e,ZR]at hx;split at hx
    .rename_i c1;rw[Qc c1]at Y7;cases Y7
    .rename_i c1;rw[Qb c1]at Y7
     split at hx
     .rename_i c2;rw[Qc c2]at Y7;rw[Y7]at hx;cases hx
     .rename_i c2;rw[Qb c2]at Y7
      split at hx
      .rename_i c3;rw[Qc c3]at Y7;rw[Y7]at hx;cases hx
      .rename_i c3;rw[Qb c3]at Y7
       split at hx
       .rename_i c4;rw[Qc c4]at Y7
        split at hx
        .cases hx
        .rename_i c5;rw[Qb c5]at Y7;cases Y7
       .rename_i c4;rw[Qb c4]at Y7
        split at hx
        .rename_i c5;rw[Qc c5]at Y7;rw[Y7]at hx;cases hx
        .rename_i c5;rw[Qb c5]at Y7
         split at hx
         .rename_i c6;rw[Qc c6]at Y7;cases Y7
         .rename_i c6;rw[Qb c6]at Y7
          split at hx
          .rename_i c7;rw[Qc c7]at Y7;cases Y7
          .cases hx
   .show d+(PIN+(b-d)-PIN)=b;omega
section
variable {b t i:Nat} {S:SX} {e:List (Nat×List C)} {D:List Nat}
theorem ziu:∀ (l l':List (Nat×List C)) (t:Nat),QB (l++l') t=(QB l t).or (QB l' t)
 |[],_,_=>rfl
 |(k,v)::l,l',t=>by
  show(if t=k then some v else QB (l++l') t)=(if t=k then some v else QB l t).or _;by_cases e:t=k
  .rw[Qc e,Qc e];rfl
  .rw[Qb e,Qb e];exact ziu l l' t
theorem zev(k:Nat):QB (Z5 b S e) (b+k)=(QB (Zp b S) (b+k)).or (QB e (b+k)):=ziu _ _ _
@[go_sem] theorem slvK0:QB (Z5 b S e) b=some (zb3 b S):=by
 have:=zev (b:=b) (S:=S) (e:=e) 0;rw[ZR]at this;rw[Qb (by omega),Qb (by omega),Qb (by omega),Qb (by omega),Qb (by omega),Qc rfl]at this;exact this
@[go_sem] theorem slvK1:QB (Z5 b S e) (b+1)=if S.R=0 then QB e (b+1)else some (Q5 cI1 (fnG S.R S.rw)):=by
 rw[zev,ZR,Qb (by omega),Qc rfl];split
 .rename_i h;rw[h];rfl
 .rename_i h
  have:=zbA (g:=S.rw) h;cases e:fnG S.R S.rw with
  |nil=>exact(this e).elim
  |cons _ _=>rfl
@[go_sem] theorem slvK2:QB (Z5 b S e) (b+2)=if S.n=0 then QB e (b+2)else some (Q5 cI1 (fnG S.n S.cl)):=by
 rw[zev,ZR,Qb (by omega),Qb (by omega),Qc rfl];split
 .rename_i h;rw[h];rfl
 .rename_i h
  have:=zbA (g:=S.cl) h;cases e:fnG S.n S.cl with
  |nil=>exact(this e).elim
  |cons _ _=>rfl
@[go_sem] theorem slvK3:QB (Z5 b S e) (b+3)=if S.R=0 then QB e (b+3)else some (rowsC (b+100) 3 S.n S.R):=by
 rw[zev,ZR,Qb (by omega),Qb (by omega),Qb (by omega),Qc rfl];split<;>rfl
@[go_sem] theorem slvK4:QB (Z5 b S e) (b+4)=if S.R=0 then QB e (b+4)else some (Q5 cR (fnG S.R S.mo)):=by
 rw[zev,ZR,Qb (by omega),Qb (by omega),Qb (by omega),Qb (by omega),Qc rfl];split
 .rename_i h;rw[h];rfl
 .rename_i h
  have:=zbA (g:=S.mo) h;cases e:fnG S.R S.mo with
  |nil=>exact(this e).elim
  |cons _ _=>rfl
@[go_sem] theorem slvK5:QB (Z5 b S e) (b+5)=some (Q5 cR (fnG (S.n+S.R) S.va)):=by
 rw[zev,ZR,Qb (by omega),Qb (by omega),Qb (by omega),Qb (by omega),Qb (by omega),Qb (by omega),Qc rfl];rfl
@[go_sem] theorem zjJ:QB (Z5 b S e) (b+100+i)=if i<S.R then some (Q5 cR (fnG S.n (S.a i)))else QB e (b+100+i):=by
 rw[show b+100+i=b+(100+i) by omega,zev,ZR];by_cases h:i<S.R
 .rw[Qc ⟨by omega,by omega⟩,Qc h,show 100+i-100=i by omega];rfl
 .rw[Qb (fun h2=>h (by omega)),Qb (by omega),Qb (by omega),Qb (by omega),Qb (by omega),Qb (by omega),Qb (by omega),Qb h];rfl
theorem QL(h:t<b):QB (Z5 b S e) t=QB e t:=by
 unfold Z5;rw[ziu,zbg fun hm=>by have:=zes hm;omega];rfl
theorem zuW{σ:St}:ZA σ (Z5 b S e)=(AtS σ.H b S/\ZA σ e):=by
 have zjZ:∀ (l l':List (Nat×List C)),ZA σ (l++l')=(ZA σ l/\ZA σ l'):=fun l l'=>by
  induction l with
  |nil=>simp[ZA]
  |cons x l ih=>obtain⟨k,v⟩:=x;show(σ.H k=some v/\ZA σ (l++l'))=((σ.H k=some v/\ZA σ l)/\ZA σ l');rw[ih,and_assoc]
 unfold Z5;rw[zjZ];congr 1;refine propext ⟨fun h k _ cs hk=>(h.look _ _ hk).1,fun h=>?_⟩;have h2:∀ k cs,QB (Zp b S) k=some cs->σ.H k=some cs:=fun k cs hk=>by
  have hm:k∈(Zp b S).map (·.1):=waD fun hn=>by rw[zbg hn]at hk;cases hk
  have:=zes hm;have e:b+(k-b)=k:=by omega
  rw[<-e];exact h (k-b) (by omega) cs (by rw[e];exact hk)
 have Vv:∀ {α:Type} {f:α->List T} {n c:Nat} {g:Nat->α},(ZM f (fnG n g) none=QB (Zp b S) c)->(fnG n g=[]\/σ.H c=some (Q5 f (fnG n g))):=fun {α f n c g} hh=>by
  by_cases hn:n=0
  .left;rw[hn];rfl
  .right
   refine h2 _ _ ?_;rw[<-hh];have:=zbA (g:=g) hn;cases e:fnG n g with
   |nil=>exact(this e).elim
   |cons _ _=>rfl
 have e1:ZM cI1 (fnG S.R S.rw) none=QB (Zp b S) (b+1):=by rw[ZR,Qb (by omega),Qc rfl]
 have e2:ZM cI1 (fnG S.n S.cl) none=QB (Zp b S) (b+2):=by rw[ZR,Qb (by omega),Qb (by omega),Qc rfl]
 have e3:QB (Zp b S) (b+3)=(if S.R=0 then none else some (rowsC (b+100) 3 S.n S.R)):=by rw[ZR,Qb (by omega),Qb (by omega),Qb (by omega),Qc rfl]
 have e4:ZM cR (fnG S.R S.mo) none=QB (Zp b S) (b+4):=by rw[ZR,Qb (by omega),Qb (by omega),Qb (by omega),Qb (by omega),Qc rfl]
 have e0:some (zb3 b S)=QB (Zp b S) b:=by
  have:=ZR b S 0;rw[Qb (by omega),Qb (by omega),Qb (by omega),Qb (by omega),Qb (by omega),Qc rfl]at this;exact this.symm
 have e5:some (Q5 cR (fnG (S.n+S.R) S.va))=QB (Zp b S) (b+5):=by rw[ZR,Qb (by omega),Qb (by omega),Qb (by omega),Qb (by omega),Qb (by omega),Qb (by omega),Qc rfl]
 have ef:∀ i,i<S.R->QB (Zp b S) (b+100+i)=some (Q5 cR (fnG S.n (S.a i))):=fun i hi=>by
  rw[show b+100+i=b+(100+i) by omega,ZR,Qc ⟨by omega,by omega⟩,show 100+i-100=i by omega]
 unfold Zp;rw[zoF,ziZ,ziZ,zv4,ziZ];refine⟨fun i hi=>h2 _ _ (ef i hi),Vv e1,Vv e2,?_,Vv e4,h2 _ _ e0.symm,h2 _ _ e5.symm,trivial⟩;by_cases hR:S.R=0
 .exact .inl hR
 .right;rw[Qb hR]at e3;exact h2 _ _ e3
attribute [go_sem] zuW
@[go_sem] theorem ziO:AtS (QB (Z5 b S e)) b S=True:=Qf fun k _ cs h=>by rw[zev,h];rfl
theorem ZY{H:QD}{x:Option (List C)}(h:t<b):AtS (upd H t x) b S=AtS H b S:=by
 refine propext ⟨fun h2 k hk cs hc=>?_,fun h2 k hk cs hc=>?_⟩
 .have:=h2 k hk cs hc
  rw[zaE,Qb (by omega)]at this;exact this
 .rw[zaE,Qb (by omega)];exact h2 k hk cs hc
theorem AtS.va{H:QD}(h:AtS H b S)(va:Nat->Rat):AtS (upd H (b+5) (some (Q5 cR (fnG (S.n+S.R) va)))) b { S with va:=va }:=fun k hk cs hc=>by
 have h0:=h k hk cs;rw[ZR]at hc h0;rw[zaE];by_cases e:k=5
 .subst e
  rw[Qc rfl];rw[Qb (by omega),Qb (by omega),Qb (by omega),Qb (by omega),Qb (by omega),Qb (by omega),Qc rfl]at hc;exact hc
 .rw[Qb (by omega)]
  refine h0 ?_;rw[<-hc,Qb e,Qb e];rfl
theorem AtS.rw{H:QD}(h:AtS H b S)(hR:S.R≠0)(rw':Nat->Nat):AtS (upd H (b+1) (some (Q5 cI1 (fnG S.R rw')))) b { S with rw:=rw' }:=fun k hk cs hc=>by
 have h0:=h k hk cs;rw[ZR]at hc h0;rw[zaE];by_cases e:k=1
 .subst e
  rw[Qc rfl];rw[Qb (by omega),Qc rfl]at hc;rw[<-hc];have:=zbA (g:=rw') hR;show some (Q5 cI1 (fnG S.R rw'))=ZM cI1 (fnG S.R rw') none;cases e:fnG S.R rw' with
  |nil=>exact(this e).elim
  |cons _ _=>rfl
 .rw[Qb (by omega)]
  refine h0 ?_;rw[Qb e]at hc ⊢;rw[<-hc];have hs:some (zb3 b S)=some (zb3 b { S with rw:=rw' }):=by
   unfold zb3;have:QX (b+1) 1 (fnG S.R S.rw)=QX (b+1) 1 (fnG S.R rw'):=by
    have h1:=zbA (g:=rw') hR;have h2:=zbA (g:=S.rw) hR;have l1:(fnG S.R rw').length=S.R:=Zc;have l2:(fnG S.R S.rw).length=S.R:=Zc;cases e1:fnG S.R rw' with
    |nil=>exact(h1 e1).elim
    |cons x xs =>
     cases e2:fnG S.R S.rw with
     |nil=>exact(h2 e2).elim
     |cons y ys =>
      rw[e1]at l1;rw[e2]at l2;show C.vec _ _ _ (y::ys).length=C.vec _ _ _ (x::xs).length;rw[l1,l2]
   show some [_,_,_,_,_,_]=some [_,_,_,_,_,_];rw[this]
  rw[hs]
theorem AtS.cl{H:QD}(h:AtS H b S)(hn:S.n≠0)(cl':Nat->Nat):AtS (upd H (b+2) (some (Q5 cI1 (fnG S.n cl')))) b { S with cl:=cl' }:=fun k hk cs hc=>by
 have h0:=h k hk cs;rw[ZR]at hc h0;rw[zaE];by_cases e:k=2
 .subst e
  rw[Qc rfl];rw[Qb (by omega),Qb (by omega),Qc rfl]at hc;rw[<-hc];have:=zbA (g:=cl') hn;show some (Q5 cI1 (fnG S.n cl'))=ZM cI1 (fnG S.n cl') none;cases e:fnG S.n cl' with
  |nil=>exact(this e).elim
  |cons _ _=>rfl
 .rw[Qb (by omega)]
  refine h0 ?_;rw[Qb e]at hc ⊢;rw[<-hc];have hs:some (zb3 b S)=some (zb3 b { S with cl:=cl' }):=by
   unfold zb3;have:QX (b+2) 1 (fnG S.n S.cl)=QX (b+2) 1 (fnG S.n cl'):=by
    have h1:=zbA (g:=cl') hn;have h2:=zbA (g:=S.cl) hn;have l1:(fnG S.n cl').length=S.n:=Zc;have l2:(fnG S.n S.cl).length=S.n:=Zc;cases e1:fnG S.n cl' with
    |nil=>exact(h1 e1).elim
    |cons x xs =>
     cases e2:fnG S.n S.cl with
     |nil=>exact(h2 e2).elim
     |cons y ys =>
      rw[e1]at l1;rw[e2]at l2;show C.vec _ _ _ (y::ys).length=C.vec _ _ _ (x::xs).length;rw[l1,l2]
   show some [_,_,_,_,_,_]=some [_,_,_,_,_,_];rw[this]
  rw[hs]
theorem AtS.row{H:QD}(h:AtS H b S){r:Nat}(hr:r<S.R)(g:Nat->Rat):AtS (upd H (b+100+r) (some (Q5 cR (fnG S.n g)))) b { S with a:=fun i=>if i=r then g else S.a i }:=fun k hk cs hc=>by
 have h0:=h k hk cs;rw[ZR]at hc h0;rw[zaE];by_cases e:k=100+r
 .subst e
  rw[Qc (by omega)];rw[Qc ⟨by omega,by show 100+r<100+S.R;omega⟩]at hc;rw[<-hc];show some (Q5 cR (fnG S.n g))=some (Q5 cR (fnG S.n (if 100+r-100=r then g else S.a (100+r-100))));rw[Qc (by omega)]
 .rw[Qb (by omega)]
  refine h0 ?_;rw[<-hc];by_cases c1:100<=k/\k<100+S.R
  .rw[Qc c1,Qc c1]
   show _=some (Q5 cR (fnG S.n (if k-100=r then g else S.a (k-100))));rw[Qb (by omega)]
  .rw[Qb c1,Qb c1];rfl
def zbs(b:Nat)(S:SX)(D:List Nat):List Nat:=(Zp b S).map (·.1)++D
@[go_sem] theorem zC1:(Z5 b S e).map (fun p=>p.1)=zbs b S (e.map (fun p=>p.1)):=by unfold Z5 zbs;rw[waG]
theorem zsP{D D':List Nat}(h:∀ x∈D,x∈D'){c:C}(hc:Z9 D c=true):Z9 D' c=true:=by
 have key:∀ b,D.contains b=true->D'.contains b=true:=fun b hb=>by
  rw[waE]at hb ⊢;exact h b hb
 cases c with
 |t x=>rfl
 |ptr b o=>exact key b hc
 |vec b s o n=>exact key b hc
 |fn f caps=>exact wai.2 fun p hp=>key _ (wai.1 hc p hp)
theorem zm0{D D':List Nat}(h:∀ x∈D,x∈D'):∀ {l:List (Nat×List C)},QT D l=true->QT D' l=true
 |[],_=>rfl
 |(k,v)::l,hl=>by
  have hl:(v.all (Z9 D)&&QT D l)=true:=hl;rw[wag,wai]at hl;show(v.all (Z9 D')&&QT D' l)=true;rw[wag,wai];exact⟨fun c hc=>zsP h (hl.1 c hc),zm0 h hl.2⟩
@[go_sem] theorem zBP:QT (zbs b S D) (Z5 b S e)=QT (zbs b S D) e:=by
 unfold Z5 zbs;rw[zgQ,zm0 (D:=(Zp b S).map (·.1)) (fun x hx=>wbR _ hx) (zkP b S),wbo]
theorem zlr{k:Nat}(h:QB (Zp b S) (b+k)≠none):(zbs b S D).contains (b+k)=true:=by
 rw[waE];refine wbR D ?_;exact waD fun hn=>h (zbg hn)
@[go_sem] theorem zDK:(zbs b S D).contains b=true:=by
 have:=zlr (b:=b) (S:=S) (D:=D) (k:=0) (by
  rw[ZR,Qb (by omega),Qb (by omega),Qb (by omega),Qb (by omega),Qb (by omega),Qc rfl];simp)
 exact this
theorem zwJ(h:i<S.R):(zbs b S D).contains (b+100+i)=true:=by
 rw[show b+100+i=b+(100+i) by omega];exact zlr (by rw[ZR,Qc ⟨by omega,by omega⟩];simp)
theorem zls{c n:Nat}(h:(QB (Zp b S) (b+c)≠none)↔n≠0):(zbs b S D).contains (b+c)=(!(n==0)||D.contains (b+c)):=by
 by_cases hn:n=0
 .have e:(zbs b S D).contains (b+c)=((Zp b S).map (·.1)++D).contains (b+c):=rfl
  rw[e,hn];show _=D.contains (b+c);rw[waU,waE,waE,wan];refine⟨fun h2=>h2.elim (fun hm=>?_) id,.inr⟩;obtain⟨cs,YL⟩:=ziq hm;exact(h.1 (by rw[YL];simp) hn).elim
 .rw[zlr (h.2 hn),show(n==0)=false from beq_false_of_ne hn];rfl
theorem ziP{α:Type}{f:α->List T}{n:Nat}{g:Nat->α}:ZM f (fnG n g) none≠none↔n≠0:=by
 constructor
 .intro h e;rw[e]at h;exact h rfl
 .intro h
  cases e:fnG n g with
  |nil=>exact(zbA h e).elim
  |cons _ _=>simp[ZM]
@[go_sem] theorem zDL:(zbs b S D).contains (b+1)=(!(S.R==0)||D.contains (b+1)):=zls (by
 rw[ZR,Qb (by omega),Qc rfl];exact ziP)
@[go_sem] theorem zDM:(zbs b S D).contains (b+2)=(!(S.n==0)||D.contains (b+2)):=zls (by
 rw[ZR,Qb (by omega),Qb (by omega),Qc rfl];exact ziP)
@[go_sem] theorem zDN:(zbs b S D).contains (b+3)=(!(S.R==0)||D.contains (b+3)):=zls (by
 rw[ZR,Qb (by omega),Qb (by omega),Qb (by omega),Qc rfl];by_cases h:S.R=0
 .simp[h]
 .simp[h])
attribute [go_sem] zmV
theorem zaL{t:Nat}(h:t<b):(zbs b S D).contains t=D.contains t:=by
 have e:(zbs b S D).contains t=((Zp b S).map (·.1)++D).contains t:=rfl;rw[e,waU,waE,waE,wan];exact⟨fun h2=>h2.elim (fun hm=>by have:=zes hm;omega) id,.inr⟩
attribute [go_sem] zb3 false_and and_false wei Nat.add_right_inj wdj
theorem zyf{H:QD}(h:AtS H PIN S)(hn:∀ t,PIN<=t->QB (Zp PIN S) t=none->H t=none):∀ t,PIN<=t->H t=xS S t:=fun t ht=>by
 rw[zbB];cases hx:QB (Zp PIN S) t with
 |none=>exact hn t ht hx
 |some cs =>
  have hm:t∈(Zp PIN S).map (·.1):=waD fun X9=>by rw[zbg X9]at hx;cases hx
  have:=zes hm;have e:PIN+(t-PIN)=t:=by omega
  have h2:=h (t-PIN) (by omega) cs;rw[e]at h2;exact h2 hx
end
theorem zpu{v:Rat}:0<v↔0<v.num:=by
 have h1:0<=(-v).num↔0<=-v:=wdR;rw[Rat.neg_num]at h1;have h2:0<v↔¬0<=-v:=by
  constructor
  .intro h;grind
  .intro h;grind
 rw[h2,<-h1];omega
theorem zda{α:Type}{b sz n:Nat}{g:Nat->α}(h:n≠0):QX b sz (fnG n g) = .vec b sz 0 n:=by
 have hne:=zbA (g:=g) h;have e:QX b sz (fnG n g) = .vec b sz 0 (fnG n g).length:=by
  cases e:fnG n g with
  |nil=>exact(hne e).elim
  |cons x xs=>rfl
 rw[e,Zc]
theorem zuX{α:Type}{f:α->List T}{n:Nat}{g:Nat->α}{o:Option (List C)}(h:n≠0):ZM f (fnG n g) o=some (Q5 f (fnG n g)):=by
 have hne:=zbA (g:=g) h;cases e:fnG n g with
 |nil=>exact(hne e).elim
 |cons x xs=>rfl
theorem zyg(S:SX)(v:Nat){K:Nat}(hK:K<=1900000000)(hd:S.n+S.R<1000000)(hv:v<S.n+S.R)(WZ:∀ i,i<S.R->lQ (S.mo i)<=K)(OR:∀ v,v<S.n+S.R->lQ (S.va v)<=K) :
  Zf prog 103 [.one (.ptr PIN 0),litI .i64 v] (xS S) (.agg ((cR (S.ov v)).map .t)) (xS S):=by
 refine zaq QC call103 func103 rfl ntmps103 results103 (by simp) (by decide) ?_ ?_ ?_ ?_ ?_
 .exact zet S
 .exact fun b=>wbn
 .exact zdV S
 .exact fun c hc=>by obtain⟨t,_,rfl⟩:=Qp.1 hc;trivial
 .have z:=zl3
  obtain⟨m1,X6⟩:∃ c:Int,c = -1:=⟨_,rfl⟩
  have om:Q9 prog 106 [tI .i64 (-1)] (eI m1):=by rw[X6];exact zbP (-1) (by decide) (by decide)
  have l1:lN m1<=1:=zap (by omega);have o1:=zgh m1 (by omega);have lm:=zfh m1;have pl:=zgx 0 (m1:Rat) (by have:=zi1;omega) (by omega);have em:(0:Rat)+(m1:Rat) = -1:=by rw[X6,Rat.zero_add];rfl
  rw[em]at pl;by_cases c:v<S.n
  .have c':((v:Int)<(S.n:Int))=True:=Qf (by omega)
   have e:S.ov v = -1:=Qc c;rw[e];simp only[go_sem,PIN,xS,c',QL];((repeat(refine Q4 0 rfl ?_;simp only[go_sem,PIN,QL]));refine Q3 (z) rfl ?_;simp only[go_sem];(repeat(refine Q4 0 rfl ?_;simp only[go_sem,PIN,QL]));refine Q3 (om) rfl ?_;simp only[go_sem];(repeat(refine Q4 0 rfl ?_;simp only[go_sem,PIN,QL]));refine Q3 (o1) rfl ?_;simp only[go_sem];(repeat(refine Q4 0 rfl ?_;simp only[go_sem,PIN,QL]));refine Q3 (pl) rfl ?_;simp only[go_sem,QL];(repeat(refine Q4 0 rfl ?_;simp only[go_sem,PIN,QL])));exact zeG (.inr rfl) (by simp only[go_sem]<;>decide) (by simp only[go_sem]<;>rfl) (za7 (by decide) (za7 (by decide) fun _ _=>rfl))
  .have c':((v:Int)<(S.n:Int))=False:=Ql (by omega)
   have hR:S.R≠0:=by omega
   have e:S.ov v=S.va v-S.mo (v-S.n):=Qb c;obtain⟨j,hj⟩:∃ j,j=v-S.n:=⟨_,rfl⟩
   rw[<-hj]at e;have RQ:IntKind.i64.wrap ((v:Int)-(S.n:Int))=(j:Int):=by rw[Q6 (by omega) (by omega)];omega
   have h1:=OR v hv;have h2:=WZ j (by omega);have om:=zhn (S.mo j) (by omega);have pl:=zgx (S.va v) (-(S.mo j)) (by omega) (by rw[zff];omega);rw[<-Rat.sub_eq_add_neg,<-e]at pl;have a1:=Z1 (f:=cR) (sz:=3) (g:=S.va) (n:=S.n+S.R) (i:=v) zat hv;have a2:=Z1 (f:=cR) (sz:=3) (g:=S.mo) (n:=S.R) (i:=j) zat (by omega);have g1:=zda (b:=1000004) (sz:=3) (g:=S.mo) hR;have g2:=fun o=>zuX (f:=cR) (g:=S.mo) (o:=o) hR
   have b1:((j:Int)<(S.R:Int))=True:=Qf (by omega);have b2:((v:Int)<((S.n+S.R:Nat):Int))=True:=Qf (by omega);have d1:(Q5 cR (fnG (S.n+S.R) S.va)).length=(S.n+S.R)*3:=zbm zat;have d2:(Q5 cR (fnG S.R S.mo)).length=S.R*3:=zbm zat;simp only[go_sem,PIN,xS,c',QL];refine Q4 0 rfl ?_;simp only[go_sem,hR,RQ,a1,a2,g1,b1,b2]
   (repeat(refine Qg (by omega) ?_))
   ((repeat(refine Q4 0 rfl ?_;simp only[go_sem]));refine Q3 (om) rfl ?_;simp only[go_sem];(repeat(refine Q4 0 rfl ?_;simp only[go_sem]));refine Q3 (pl) rfl ?_;simp only[go_sem];(repeat(refine Q4 0 rfl ?_;simp only[go_sem])));exact zeG (.inr rfl) (by simp only[go_sem]<;>decide) (by simp only[go_sem]<;>rfl) (za7 (by decide) (za7 (by decide) fun _ _=>rfl))
structure BdX(K:Nat)(S:SX):Prop where
 dim:S.n+S.R<90000
 mo:∀ i,i<S.R->lQ (S.mo i)<=K
 va:∀ v,v<S.n+S.R->lQ (S.va v)<=K
 a:∀ i j,i<S.R->j<S.n->lQ (S.a i j)<=K
 rw:∀ i,i<S.R->S.rw i<S.n+S.R
 cl:∀ c,c<S.n->S.cl c<S.n+S.R
theorem BdX.ov{K:Nat}{S:SX}(h:BdX K S){v:Nat}(hv:v<S.n+S.R):lQ (S.ov v)<=2*K+1:=by
 unfold SX.ov;have h1:=zqg;split
 .rw[zff];omega
 .have h2:=h.va v hv
  have h3:=h.mo (v-S.n) (by omega);have:=zxH (S.va v) (S.mo (v-S.n));omega
theorem zlu(S:SX)(v:Nat){K:Nat}(hK:K<=1900000000)(hB:BdX K S)(hv:v<S.n+S.R)(d:Nat){H:QD}(hH:AtS H d S) :
  RdC prog 103 [.one (.ptr d 0),litI .i64 v] H (.agg ((cR (S.ov v)).map .t)) :=
 zhs d (zyg S v hK (by have:=hB.dim;omega) hv hB.mo hB.va) rfl (Q2.2 ⟨zfy,Q2.2 ⟨trivial,fun x hx=>by cases hx⟩⟩) hH
def zd8:Option Nat->Int
 |none=>-1
 |some r=>r
@[go_sem] theorem zBQ{p:Nat->Bool}{k:Nat->Nat}:ZH p k 0=none:=rfl
@[go_sem] theorem zBR:zd8 none = -1:=rfl
@[go_sem] theorem zBS{r:Nat}:zd8 (some r)=(r:Int):=rfl
theorem zpv{p:Nat->Bool}{k:Nat->Nat}{n r:Nat}(h:ZH p k n=some r):r<n:=(ziF h).1
theorem zuY(S:SX){K:Nat}(hK:K<=900000000)(hB:BdX K S) :
  Zf prog 57 [.one (.ptr PIN 0)] (xS S) (litI .i64 (zd8 S.broken)) (xS S):=by
 have Xi:=hB.dim;refine zaq QC call57 func57 rfl ntmps57 results57 (by simp) (by decide) ?_ ?_ ?_ ?_ ?_
 .exact zet S
 .exact fun b=>wbn
 .exact zdV S
 .trivial
 .simp only[go_sem,PIN,xS]
  refine QK (fun i:Nat=>stL 49 [(0,.one (.ptr 1000000 0)),(3,litI .i64 (zd8 (ZH S.bad S.rw i))),(10,.one (QX 1000001 1 (fnG S.R S.rw))),(11,litI .i64 S.R),(12,litI .i64 i)] (Z5 1000000 S []))
   (fun i=>i<=S.R) (fun i=>S.R-i) 0 ?_ (Qk _) ?_
  ·(refine Q7 rfl ?_ ?_ ?_ ?_<;>(try simp only[go_sem])<;>(try simp))
  .intro i hi
   simp only[go_sem];refine QI (fun Yw=>?_) (fun YG=>?_)
   .have Yv:i<S.R:=by omega
    have hR:S.R≠0:=by omega
    have Vp:(S.R==0)=false:=beq_false_of_ne hR;have a1:=Z1 (f:=cI1) (sz:=1) (g:=S.rw) (n:=S.R) (i:=i) ZW Yv;rw[wah]at a1;have g1:=zda (b:=1000001) (sz:=1) (g:=S.rw) hR;have d1:(Q5 cI1 (fnG S.R S.rw)).length=S.R:=by rw[zbm ZW,wah]
    have hv:=hB.rw i Yv;have Yx:ZH S.bad S.rw (i+1)=match ZH S.bad S.rw i with
      |none=>if S.bad i then some i else none
      |some o=>if S.bad i&&decide (S.rw i<S.rw o)then some i else some o:=rfl
    have K3:∀ r,ZH S.bad S.rw i=some r->r<i:=fun r h=>zpv h
    have K0:=hB.ov hv;have YJ:S.bad i=(decide (S.n<=S.rw i)&&decide (0<S.ov (S.rw i))):=rfl;have Jz:S.bad i=false->ZH S.bad S.rw (i+1)=ZH S.bad S.rw i:=fun h=>by
     rw[Yx,h];cases ZH S.bad S.rw i<;>rfl
    generalize ho:ZH S.bad S.rw i=o at *
    have rd:=zlu S (S.rw i) (by omega) hB hv 1000000 (H:=QB (Z5 1000000 S [])) (by rw[ziO];trivial);have sg:=ze3 (S.ov (S.rw i)) (by omega);simp only[go_sem,g1,a1,Yw,hR]
    (repeat(refine Qg (by omega) ?_))
    by_cases c1:S.n<=S.rw i
    .have c1':((S.n:Int)<=(S.rw i:Int))=True:=Qf (by omega)
     simp only[go_sem,c1'];refine zbL (.inr rfl) rd ?_;simp only[go_sem];refine Q3 sg rfl ?_;have JS:0<S.ov (S.rw i)↔0<(S.ov (S.rw i)).num.sign:=by rw[wdv,zpu]
     by_cases c2:0<S.ov (S.rw i)
     .have c2':(0<(S.ov (S.rw i)).num.sign)=True:=Qf (JS.1 c2)
      have hb:S.bad i=true:=by rw[YJ,waA c1,waA c2];rfl
      rw[hb]at Yx;cases o with
      |none =>
       have Yx:ZH S.bad S.rw (i+1)=some i:=Yx;simp only[go_sem,c2'];refine⟨i+1,Yv,(by show S.R-(i+1)<S.R-i;omega),?_⟩
       (refine Q7 rfl ?_ ?_ ?_ ?_<;>(try simp only[go_sem,Yx,Vp,Q6 (n:=(i:Int)+1) (by omega) (by omega)])<;>(try simp))
      |some r =>
       have hr:=K3 r rfl;have WL:((r:Int)<0)=False:=Ql (by omega);have Ug:((r:Int)<(S.R:Int))=True:=Qf (by omega);have a2:=Z1 (f:=cI1) (sz:=1) (g:=S.rw) (n:=S.R) (i:=r) ZW (by omega);rw[wah]at a2;have Yx:ZH S.bad S.rw (i+1)=if S.rw i<S.rw r then some i else some r:=by
        rw[Yx];show(if(true&&decide (S.rw i<S.rw r))=true then some i else some r)=_;by_cases c:S.rw i<S.rw r<;>simp[c]
       simp only[go_sem,c2',WL,Ug,g1,a2,hR]
       (repeat(refine Qg (by omega) ?_))
       by_cases c3:S.rw i<S.rw r
       .have c3':((S.rw i:Int)<(S.rw r:Int))=True:=Qf (by omega)
        rw[Qc c3]at Yx;simp only[go_sem,c3'];refine⟨i+1,Yv,(by show S.R-(i+1)<S.R-i;omega),?_⟩
        (refine Q7 rfl ?_ ?_ ?_ ?_<;>(try simp only[go_sem,Yx,Vp,Q6 (n:=(i:Int)+1) (by omega) (by omega)])<;>(try simp))
       .have c3':((S.rw i:Int)<(S.rw r:Int))=False:=Ql (by omega)
        rw[Qb c3]at Yx;simp only[go_sem,c3'];refine⟨i+1,Yv,(by show S.R-(i+1)<S.R-i;omega),?_⟩
        (refine Q7 rfl ?_ ?_ ?_ ?_<;>(try simp only[go_sem,Yx,Vp,Q6 (n:=(i:Int)+1) (by omega) (by omega)])<;>(try simp))
     .have c2':(0<(S.ov (S.rw i)).num.sign)=False:=Ql (fun h=>c2 (JS.2 h))
      have Yx:=Jz (by rw[YJ,wad c2,wdW]);simp only[go_sem,c2'];refine⟨i+1,Yv,(by show S.R-(i+1)<S.R-i;omega),?_⟩
      (refine Q7 rfl ?_ ?_ ?_ ?_<;>(try simp only[go_sem,Yx,Vp,Q6 (n:=(i:Int)+1) (by omega) (by omega)])<;>(try simp))
    .have c1':((S.n:Int)<=(S.rw i:Int))=False:=Ql (by omega)
     have Yx:=Jz (by rw[YJ,wad c1,wcE]);simp only[go_sem,c1'];refine⟨i+1,Yv,(by show S.R-(i+1)<S.R-i;omega),?_⟩
     (refine Q7 rfl ?_ ?_ ?_ ?_<;>(try simp only[go_sem,Yx,Vp,Q6 (n:=(i:Int)+1) (by omega) (by omega)])<;>(try simp))
   .obtain rfl:i=S.R:=by omega
    rw[show ZH S.bad S.rw S.R=S.broken from rfl];simp only[go_sem];exact zeG (.inr rfl) trivial (by simp only[go_sem]<;>rfl) (fun _ _=>rfl)
theorem zoL(S:SX)(r:Nat){K:Nat}(hK:K<=900000000)(hB:BdX K S)(hr:r<S.R) :
  Zf prog 59 [.one (.ptr PIN 0),litI .i64 r] (xS S) (litI .i64 (zd8 (S.column r))) (xS S):=by
 have Xi:=hB.dim;refine zaq QC call59 func59 rfl ntmps59 results59 (by simp) (by decide) ?_ ?_ ?_ ?_ ?_
 .exact zet S
 .exact fun b=>wbn
 .exact zdV S
 .trivial
 .simp only[go_sem,PIN,xS]
  refine QK (fun i:Nat=>stL 74 [(0,.one (.ptr 1000000 0)),(1,litI .i64 r),(5,litI .i64 (zd8 (ZH (S.may r) S.cl i))),(14,.one (QX 1000002 1 (fnG S.n S.cl))),(15,litI .i64 S.n),(16,litI .i64 i)] (Z5 1000000 S []))
   (fun i=>i<=S.n) (fun i=>S.n-i) 0 ?_ (Qk _) ?_
  ·(refine Q7 rfl ?_ ?_ ?_ ?_<;>(try simp only[go_sem])<;>(try simp))
  .intro i hi
   simp only[go_sem];refine QI (fun Yw=>?_) (fun YG=>?_)
   .have Yv:i<S.n:=by omega
    have hn:S.n≠0:=by omega
    have Xl:(S.n==0)=false:=beq_false_of_ne hn;have hR:S.R≠0:=by omega
    have a1:=Z1 (f:=cI1) (sz:=1) (g:=S.cl) (n:=S.n) (i:=i) ZW Yv;rw[wah]at a1;have g2:=zda (b:=1000002) (sz:=1) (g:=S.cl) hn;have g3:cvC 1000003 S.R = .vec 1000003 1 0 S.R:=zgm hR;have d1:(Q5 cI1 (fnG S.n S.cl)).length=S.n:=by rw[zbm ZW,wah]
    have a3:(rowsC 1000100 3 S.n S.R).drop r = .vec (1000100+r) 3 0 S.n::(rowsC 1000100 3 S.n S.R).drop (r+1):=zcw hr;have a4:=Z1 (f:=cR) (sz:=3) (g:=S.a r) (n:=S.n) (i:=i) zat Yv;have Xh:((r:Int)<(S.R:Int))=True:=Qf (by omega);have Sj:(r<S.R)=True:=Qf hr;have kf:QB (Z5 1000000 S []) (1000100+r)=some (Q5 cR (fnG S.n (S.a r))):=by rw[show(1000100:Nat)=1000000+100 from rfl,zjJ,Qc hr]
    have hv:=hB.cl i Yv;have Yx:ZH (S.may r) S.cl (i+1)=match ZH (S.may r) S.cl i with
      |none=>if S.may r i then some i else none
      |some o=>if S.may r i&&decide (S.cl i<S.cl o)then some i else some o:=rfl
    have K3:∀ q,ZH (S.may r) S.cl i=some q->q<i:=fun q h=>zpv h
    have K0:=hB.ov hv;have ha:=hB.a r i hr Yv;have YJ:S.may r i=(decide (0<S.a r i)||(decide (S.a r i<0)&&(decide (S.cl i<S.n)||decide (S.ov (S.cl i)<0)))):=rfl;have Jz:S.may r i=false->ZH (S.may r) S.cl (i+1)=ZH (S.may r) S.cl i:=fun h=>by
     rw[Yx,h];cases ZH (S.may r) S.cl i<;>rfl
    generalize ho:ZH (S.may r) S.cl i=o at *
    have rd:=zlu S (S.cl i) (by omega) hB hv 1000000 (H:=QB (Z5 1000000 S [])) (by rw[ziO];trivial);have sg:=ze3 (S.a r i) (by omega);have sg2:=ze3 (S.ov (S.cl i)) (by omega);have negI:∀ {v:Rat},v<0↔v.num.sign<0:=fun {v}=>by
     rw[Int.sign_neg_iff];have h0:(0<=v)↔0<=v.num:=wdR.symm;have h1:v<0↔¬0<=v:=Rat.not_le.symm;rw[h1,h0];omega
    have posI:0<S.a r i↔0<(S.a r i).num.sign:=by rw[wdv,zpu]
    simp only[go_sem,g2,a1,Yw,hn,hR,g3,a3,a4,Xh,kf]
    (repeat(refine Qg (by omega) ?_))
    refine Q3 sg rfl ?_;by_cases c1:0<S.a r i
    .have c1':(0<(S.a r i).num.sign)=True:=Qf (posI.1 c1)
     have hb:S.may r i=true:=by rw[YJ,waA c1];rfl
     simp only[go_sem,c1'];rw[hb]at Yx;cases o with
     |none =>
      have Yx:ZH (S.may r) S.cl (i+1)=some i:=Yx;simp only[go_sem];refine⟨i+1,Yv,(by show S.n-(i+1)<S.n-i;omega),?_⟩
      (refine Q7 rfl ?_ ?_ ?_ ?_<;>(try simp only[go_sem,Yx,Xl,Q6 (n:=(i:Int)+1) (by omega) (by omega)])<;>(try simp))
     |some q =>
      have hr:=K3 q rfl;have WL:((q:Int)<0)=False:=Ql (by omega);have Ug:((q:Int)<(S.n:Int))=True:=Qf (by omega);have a2:=Z1 (f:=cI1) (sz:=1) (g:=S.cl) (n:=S.n) (i:=q) ZW (by omega);rw[wah]at a2;have Yx:ZH (S.may r) S.cl (i+1)=if S.cl i<S.cl q then some i else some q:=by
       rw[Yx];show(if(true&&decide (S.cl i<S.cl q))=true then some i else some q)=_;by_cases c:S.cl i<S.cl q<;>simp[c]
      simp only[go_sem,WL,Ug,g2,a2,hn]
      (repeat(refine Qg (by omega) ?_))
      by_cases c9:S.cl i<S.cl q
      .have c9':((S.cl i:Int)<(S.cl q:Int))=True:=Qf (by omega)
       rw[Qc c9]at Yx;simp only[go_sem,c9'];refine⟨i+1,Yv,(by show S.n-(i+1)<S.n-i;omega),?_⟩
       (refine Q7 rfl ?_ ?_ ?_ ?_<;>(try simp only[go_sem,Yx,Xl,Q6 (n:=(i:Int)+1) (by omega) (by omega)])<;>(try simp))
      .have c9':((S.cl i:Int)<(S.cl q:Int))=False:=Ql (by omega)
       rw[Qb c9]at Yx;simp only[go_sem,c9'];refine⟨i+1,Yv,(by show S.n-(i+1)<S.n-i;omega),?_⟩
       (refine Q7 rfl ?_ ?_ ?_ ?_<;>(try simp only[go_sem,Yx,Xl,Q6 (n:=(i:Int)+1) (by omega) (by omega)])<;>(try simp))
    .have c1':(0<(S.a r i).num.sign)=False:=Ql (fun h=>c1 (posI.2 h))
     by_cases c2:S.a r i<0
     .have c2':((S.a r i).num.sign<0)=True:=Qf (negI.1 c2)
      by_cases c3:S.cl i<S.n
      .have c3':((S.cl i:Int)<(S.n:Int))=True:=Qf (by omega)
       have hb:S.may r i=true:=by rw[YJ,waA c2,waA c3,Bool.true_or,wbo,wcY]
       simp only[go_sem,c1',c2',c3'];rw[hb]at Yx;cases o with
       |none =>
        have Yx:ZH (S.may r) S.cl (i+1)=some i:=Yx;simp only[go_sem];refine⟨i+1,Yv,(by show S.n-(i+1)<S.n-i;omega),?_⟩
        (refine Q7 rfl ?_ ?_ ?_ ?_<;>(try simp only[go_sem,Yx,Xl,Q6 (n:=(i:Int)+1) (by omega) (by omega)])<;>(try simp))
       |some q =>
        have hr:=K3 q rfl;have WL:((q:Int)<0)=False:=Ql (by omega);have Ug:((q:Int)<(S.n:Int))=True:=Qf (by omega);have a2:=Z1 (f:=cI1) (sz:=1) (g:=S.cl) (n:=S.n) (i:=q) ZW (by omega);rw[wah]at a2;have Yx:ZH (S.may r) S.cl (i+1)=if S.cl i<S.cl q then some i else some q:=by
         rw[Yx];show(if(true&&decide (S.cl i<S.cl q))=true then some i else some q)=_;by_cases c:S.cl i<S.cl q<;>simp[c]
        simp only[go_sem,WL,Ug,g2,a2,hn]
        (repeat(refine Qg (by omega) ?_))
        by_cases c9:S.cl i<S.cl q
        .have c9':((S.cl i:Int)<(S.cl q:Int))=True:=Qf (by omega)
         rw[Qc c9]at Yx;simp only[go_sem,c9'];refine⟨i+1,Yv,(by show S.n-(i+1)<S.n-i;omega),?_⟩
         (refine Q7 rfl ?_ ?_ ?_ ?_<;>(try simp only[go_sem,Yx,Xl,Q6 (n:=(i:Int)+1) (by omega) (by omega)])<;>(try simp))
        .have c9':((S.cl i:Int)<(S.cl q:Int))=False:=Ql (by omega)
         rw[Qb c9]at Yx;simp only[go_sem,c9'];refine⟨i+1,Yv,(by show S.n-(i+1)<S.n-i;omega),?_⟩
         (refine Q7 rfl ?_ ?_ ?_ ?_<;>(try simp only[go_sem,Yx,Xl,Q6 (n:=(i:Int)+1) (by omega) (by omega)])<;>(try simp))
      .have c3':((S.cl i:Int)<(S.n:Int))=False:=Ql (by omega)
       simp only[go_sem,c1',c2',c3'];refine zbL (.inr rfl) rd ?_;simp only[go_sem];refine Q3 sg2 rfl ?_;by_cases c4:S.ov (S.cl i)<0
       .have c4':((S.ov (S.cl i)).num.sign<0)=True:=Qf (negI.1 c4)
        have hb:S.may r i=true:=by rw[YJ,waA c2,waA c4,wcY,wbo,wcY]
        simp only[go_sem,c4'];rw[hb]at Yx;cases o with
        |none =>
         have Yx:ZH (S.may r) S.cl (i+1)=some i:=Yx;simp only[go_sem];refine⟨i+1,Yv,(by show S.n-(i+1)<S.n-i;omega),?_⟩
         (refine Q7 rfl ?_ ?_ ?_ ?_<;>(try simp only[go_sem,Yx,Xl,Q6 (n:=(i:Int)+1) (by omega) (by omega)])<;>(try simp))
        |some q =>
         have hr:=K3 q rfl;have WL:((q:Int)<0)=False:=Ql (by omega);have Ug:((q:Int)<(S.n:Int))=True:=Qf (by omega);have a2:=Z1 (f:=cI1) (sz:=1) (g:=S.cl) (n:=S.n) (i:=q) ZW (by omega);rw[wah]at a2;have Yx:ZH (S.may r) S.cl (i+1)=if S.cl i<S.cl q then some i else some q:=by
          rw[Yx];show(if(true&&decide (S.cl i<S.cl q))=true then some i else some q)=_;by_cases c:S.cl i<S.cl q<;>simp[c]
         simp only[go_sem,WL,Ug,g2,a2,hn]
         (repeat(refine Qg (by omega) ?_))
         by_cases c9:S.cl i<S.cl q
         .have c9':((S.cl i:Int)<(S.cl q:Int))=True:=Qf (by omega)
          rw[Qc c9]at Yx;simp only[go_sem,c9'];refine⟨i+1,Yv,(by show S.n-(i+1)<S.n-i;omega),?_⟩
          (refine Q7 rfl ?_ ?_ ?_ ?_<;>(try simp only[go_sem,Yx,Xl,Q6 (n:=(i:Int)+1) (by omega) (by omega)])<;>(try simp))
         .have c9':((S.cl i:Int)<(S.cl q:Int))=False:=Ql (by omega)
          rw[Qb c9]at Yx;simp only[go_sem,c9'];refine⟨i+1,Yv,(by show S.n-(i+1)<S.n-i;omega),?_⟩
          (refine Q7 rfl ?_ ?_ ?_ ?_<;>(try simp only[go_sem,Yx,Xl,Q6 (n:=(i:Int)+1) (by omega) (by omega)])<;>(try simp))
       .have c4':((S.ov (S.cl i)).num.sign<0)=False:=Ql (fun h=>c4 (negI.2 h))
        have hb:S.may r i=false:=by rw[YJ,wad c1,wad c3,wad c4,wds,wdW,wds]
        simp only[go_sem,c4'];have Yx:=Jz hb;refine⟨i+1,Yv,(by show S.n-(i+1)<S.n-i;omega),?_⟩
        (refine Q7 rfl ?_ ?_ ?_ ?_<;>(try simp only[go_sem,Yx,Xl,Q6 (n:=(i:Int)+1) (by omega) (by omega)])<;>(try simp))
     .have c2':((S.a r i).num.sign<0)=False:=Ql (fun h=>c2 (negI.2 h))
      have hb:S.may r i=false:=by rw[YJ,wad c1,wad c2,wcE,wds]
      simp only[go_sem,c1',c2'];have Yx:=Jz hb;refine⟨i+1,Yv,(by show S.n-(i+1)<S.n-i;omega),?_⟩
      (refine Q7 rfl ?_ ?_ ?_ ?_<;>(try simp only[go_sem,Yx,Xl,Q6 (n:=(i:Int)+1) (by omega) (by omega)])<;>(try simp))
   .obtain rfl:i=S.n:=by omega
    rw[show ZH (S.may r) S.cl S.n=S.column r from rfl];simp only[go_sem];exact zeG (.inr rfl) trivial (by simp only[go_sem]<;>rfl) (fun _ _=>rfl)
theorem zdg{n:Nat}{g:Nat->Rat}{i:Nat}(hi:i<n){q:Rat}:(Q5 cR (fnG n g)).take (i*3)++C.t (.lit (.bool (decide (q.num<0))))::C.t (eN (dig q.num.natAbs))::C.t (eN (dig q.den))::(Q5 cR (fnG n g)).drop (i*3+3)=Q5 cR (fnG n (fun v=>if v=i then q else g v)):=by
 rw[zzl (by rw[Zc];exact hi),zo4]
theorem zf5{n:Nat}{g:Nat->Rat}:(Q5 cR (fnG n g)).length=n*3:=zbm zat
theorem zyV{S:SX}{t sz len:Nat}{x:T}(ht:t<PIN){c:C}(h:inC (xS S) c):fC t sz len x c=c:=by
 have hne:∀ b,xS S b≠none->b≠t:=fun b hb e=>by have:=(zeI hb).1;omega
 cases c with
 |t x=>rfl
 |ptr b o=>show(if b=t then _ else _)=_;rw[Qb (hne b h)]
 |vec b s o n=>show(if b=t then _ else _)=_;rw[Qb (hne b h)]
 |fn f caps =>
  show(if caps.any (fun p=>p.1==t)then _ else _)=_;rw[Qb];intro h2;obtain⟨p,hp,e⟩:=wbz.1 h2;exact hne p.1 (h p hp) (beq_iff_eq.1 e)
theorem zo6{S:SX}{e:List (Nat×List C)}(h:∀ k∈e.map (·.1),k<PIN){b:Nat}(hb:PIN<=b):QB (Z5 PIN S e) b=xS S b:=by
 unfold xS Z5;rw[ziu,zbg (l:=e) fun hm=>by have:=h b hm;omega,wal];cases QB (Zp PIN S) b<;>rfl
theorem zv8{σ:St}{S:SX}{t sz len:Nat}{x:T}(ht:t<PIN)(h:∀ b,PIN<=b->σ.H b=xS S b):∀ b,PIN<=b->(σ.frz t sz len x).H b=xS S b:=fun b hb=>by
 rw[zmh,Qb (by omega),h b hb];cases hx:xS S b with
 |none=>rfl
 |some cs =>
  show some (cs.map _)=some cs;congr 1;have e:cs.map (fC t sz len x)=cs.map id:=wau fun c hc=>zyV ht (zdV S b cs hx c hc)
  rw[e,wb0]
theorem zup(S:SX)(r:Nat){K:Nat}(hK:K<=900000000)(hB:BdX K S)(hr:r<S.R)(Kx:S.n<=S.rw r) :
  Zf prog 60 [.one (.ptr PIN 0),litI .i64 r,litI .i64 S.R] (xS S) (.one (.t (eL cR (fnG S.R (Z3 S r S.n))))) (xS S):=by
 have Xi:=hB.dim;refine zaq QC call60 func60 rfl ntmps60 results60 (by simp) (by decide) ?_ ?_ ?_ ?_ ?_
 .exact zet S
 .exact fun b=>wbn
 .exact zdV S
 .trivial
 .have z:=zl3
  have hR:S.R≠0:=by omega
  have Vp:(S.R==0)=false:=beq_false_of_ne hR;simp only[go_sem,PIN,xS,QL]
  (repeat(refine Qg (by omega) ?_))
  refine QK (fun i:Nat=>stL 80 [(0,.one (.ptr 1000000 0)),(1,litI .i64 r),(7,.one (.vec 12 3 0 S.R)),(13,.one (.vec 12 3 0 S.R)),(14,litI .i64 S.R),(15,litI .i64 i)]
   (Z5 1000000 S [(12,Q5 cZ (((fnG S.R fun _=>(0:Rat)).take i).map some++List.replicate (S.R-i) none))])) (fun i=>i<=S.R) (fun i=>S.R-i) 0 ?_ (Qk _) ?_
  .rw[wao,wbI,waH,wbw]
   refine GStep.trans (zar 12 (cs:=Zg S.R z3) (by simp only[go_sem]<;>rfl) (ze1 _)) ?_
   (refine Q7 rfl ?_ ?_ ?_ ?_<;>(try simp only[go_sem,QH,QL,ZY,zaL])<;>(try simp))
  .intro i hi
   simp only[go_sem];refine QI (fun Yw=>?_) (fun YG=>?_)
   .have Yv:i<S.R:=by omega
    have Y0:(fnG S.R fun _=>(0:Rat)).length=S.R:=Zc;have Wl:(((fnG S.R fun _=>(0:Rat)).take i).map some++List.replicate (S.R-i) none).length=S.R:=by simp[Zc];omega
    have Yx:=zfR (l:=fnG S.R fun _=>(0:Rat)) (n:=S.R) (i:=i) (by rw[Y0];exact Yv) (by omega);rw[za2]at Yx;generalize ((fnG S.R fun _=>(0:Rat)).take i).map some++List.replicate (S.R-i) none=ys at *
    have VW:=zgC (ys:=ys) (i:=i) (by omega) (q:=0);rw[Yx]at VW;simp only[go_sem,Yw];((repeat(refine Q4 0 rfl ?_;simp only[go_sem,Yw,QL]));refine Q3 (z) rfl ?_;simp only[go_sem,Yw,QL];(repeat(refine Q4 0 rfl ?_;simp only[go_sem,Yw,QL])));simp only[go_sem,zgg]
    (repeat(refine Qg (by omega) ?_))
    refine⟨i+1,Yv,(by show S.R-(i+1)<S.R-i;omega),?_⟩
    (refine Q7 rfl ?_ ?_ ?_ ?_<;>(try simp only[go_sem,QH,QL,ZY,zaL,VW,Q6 (n:=(i:Int)+1) (by omega) (by omega)])<;>(try simp))
   .obtain rfl:i=S.R:=by omega
    rw[waL (by rw[Zc];exact Qd _),wbl,wbX,wal,zgw];obtain⟨j0,XY⟩:∃ j,j=S.rw r-S.n:=⟨_,rfl⟩
    have YT:=hB.rw r hr;have RQ:IntKind.i64.wrap ((S.rw r:Int)-(S.n:Int))=(j0:Int):=by rw[Q6 (by omega) (by omega)];omega
    have VB:((j0:Int)<(S.R:Int))=True:=Qf (by omega);have X1:((0:Int)<=(j0:Int))=True:=Qf (by omega);have Xh:((r:Int)<(S.R:Int))=True:=Qf (by omega);have a1:=Z1 (f:=cI1) (sz:=1) (g:=S.rw) (n:=S.R) (i:=r) ZW hr;rw[wah]at a1;have g1:=zda (b:=1000001) (sz:=1) (g:=S.rw) hR;have d1:(Q5 cI1 (fnG S.R S.rw)).length=S.R:=by rw[zbm ZW,wah]
    have d2:∀ {g:Nat->Rat},(Q5 cR (fnG S.R g)).length=S.R*3:=zf5;obtain⟨u1,WC⟩:∃ c:Int,c=1:=⟨_,rfl⟩
    have o1:Q9 prog 106 [tI .i64 1] (eI u1):=by rw[WC];exact zbP 1 (by decide) (by decide)
    have o2:Q9 prog 102 [eI u1] (eQ 1):=by
     have:=zgh u1 (by have:lN u1<=1:=zap (by omega);omega)
     rwa[show((u1:Int):Rat)=1 by rw[WC];rfl]at this
    have h0:fnG S.R (fun v=>if v=j0 then(1:Rat)else 0)=fnG S.R (Z3 S r 0):=Yk fun v _=>by
     show _=if v=S.rw r-S.n then(1:Rat)else 0
     rw[XY]
    have sd:=zdg (n:=S.R) (g:=fun _=>0) (i:=j0) (by omega) (q:=1);rw[h0]at sd;simp only[go_sem];refine Q4 0 rfl ?_;simp only[go_sem,g1,a1,hR,Xh,RQ]
    (repeat(refine Qg (by omega) ?_))
    ((repeat(refine Q4 0 rfl ?_;simp only[go_sem,QL,hR]));refine Q3 (o1) rfl ?_;simp only[go_sem];(repeat(refine Q4 0 rfl ?_;simp only[go_sem,QL,hR]));refine Q3 (o2) rfl ?_;simp only[go_sem,QL];(repeat(refine Q4 0 rfl ?_;simp only[go_sem,QL,hR])));simp only[go_sem,d2,VB,X1]
    (repeat(refine Qg (by omega) ?_))
    refine QK (fun c:Nat=>stL 80 [(0,.one (.ptr 1000000 0)),(1,litI .i64 r),(7,.one (.vec 12 3 0 S.R)),(44,.one (QX 1000002 1 (fnG S.n S.cl))),(45,litI .i64 S.n),(46,litI .i64 c)]
     (Z5 1000000 S [(12,Q5 cR (fnG S.R (Z3 S r c)))])) (fun c=>c<=S.n) (fun c=>S.n-c) 0 ?_ (Qk _) ?_
    ·(refine Q7 rfl ?_ ?_ ?_ ?_<;>(try simp only[go_sem,QH,QL,ZY,zaL,sd])<;>(try simp))
    .intro c hc
     simp only[go_sem];refine QI (fun Rq=>?_) (fun Sz=>?_)
     .have WW:c<S.n:=by omega
      have hn:S.n≠0:=by omega
      have Xl:(S.n==0)=false:=beq_false_of_ne hn;have b1:=Z1 (f:=cI1) (sz:=1) (g:=S.cl) (n:=S.n) (i:=c) ZW WW;rw[wah]at b1;have g2:=zda (b:=1000002) (sz:=1) (g:=S.cl) hn;have e1:(Q5 cI1 (fnG S.n S.cl)).length=S.n:=by rw[zbm ZW,wah]
      have YW:=hB.cl c WW;have Yx:Z3 S r (c+1)=if S.n<=S.cl c then fun v=>if v=S.cl c-S.n then -(S.a r c)else Z3 S r c v else Z3 S r c:=rfl
      simp only[go_sem,g2,b1,Rq,hn]
      (repeat(refine Qg (by omega) ?_))
      by_cases c1:S.n<=S.cl c
      .have c1':((S.n:Int)<=(S.cl c:Int))=True:=Qf (by omega)
       rw[Qc c1]at Yx;obtain⟨j,hj⟩:∃ j,j=S.cl c-S.n:=⟨_,rfl⟩
       rw[<-hj]at Yx;have RQ:IntKind.i64.wrap ((S.cl c:Int)-(S.n:Int))=(j:Int):=by rw[Q6 (by omega) (by omega)];omega
       have VB:((j:Int)<(S.R:Int))=True:=Qf (by omega);have X1:((0:Int)<=(j:Int))=True:=Qf (by omega);have g3:cvC 1000003 S.R = .vec 1000003 1 0 S.R:=zgm hR;have a3:(rowsC 1000100 3 S.n S.R).drop r = .vec (1000100+r) 3 0 S.n::(rowsC 1000100 3 S.n S.R).drop (r+1):=zcw hr;have a4:=Z1 (f:=cR) (sz:=3) (g:=S.a r) (n:=S.n) (i:=c) zat WW;have kf:∀ e,QB (Z5 1000000 S e) (1000100+r)=some (Q5 cR (fnG S.n (S.a r))):=fun e=>by rw[show(1000100:Nat)=1000000+100 from rfl,zjJ,Qc hr]
       have mi:=zhn (S.a r c) (by have:=hB.a r c hr WW;omega);have sd:=zdg (n:=S.R) (g:=Z3 S r c) (i:=j) (by omega) (q:=-(S.a r c));rw[<-Yx]at sd;generalize Z3 S r c=g at *
       generalize Gs:Z3 S r (c+1)=g' at *
       simp only[go_sem,c1'];refine Q4 0 rfl ?_;simp only[go_sem,hR,Xh,RQ,g3,a3,a4,kf,Rq]
       (repeat(refine Qg (by omega) ?_))
       refine Q3 mi rfl ?_;simp only[go_sem,d2,QL,VB,X1]
       (repeat(refine Qg (by omega) ?_))
       refine⟨c+1,WW,(by show S.n-(c+1)<S.n-c;omega),?_⟩
       (refine Q7 rfl ?_ ?_ ?_ ?_<;>(try simp only[go_sem,QH,QL,ZY,zaL,sd,Gs,Xl,Q6 (n:=(c:Int)+1) (by omega) (by omega)])<;>(try simp))
      .have c1':((S.n:Int)<=(S.cl c:Int))=False:=Ql (by omega)
       rw[Qb c1]at Yx;simp only[go_sem,c1'];refine⟨c+1,WW,(by show S.n-(c+1)<S.n-c;omega),?_⟩
       (refine Q7 rfl ?_ ?_ ?_ ?_<;>(try simp only[go_sem,QH,QL,zaL,Yx,Xl,Q6 (n:=(c:Int)+1) (by omega) (by omega)])<;>(try simp))
     .obtain rfl:c=S.n:=by omega
      have WV:=zqr (fnG S.R (Z3 S r S.n)) (by rw[Zc];omega);simp only[go_sem];refine zbM 12 3 S.R rfl WV (by simp only[go_sem,QL]<;>rfl) (by have:=Yl (f:=cR) (xs:=fnG S.R (Z3 S r S.n)) zat;rwa[Zc]at this) (by simp only[go_sem]<;>rfl) ?_;simp only[go_sem];exact zeG (.inr rfl) trivial (by simp only[go_sem]<;>rfl) (zv8 (by decide) fun b hb=>zo6 (by intro k hk;simp at hk;subst hk;decide) hb)
abbrev waS(S:SX)(a:Nat->Nat->Rat):SX:=⟨S.n,S.R,S.rw,S.cl,a,S.va,S.mo⟩
theorem AtS.row'{H:QD}{b:Nat}{S:SX}{a a':Nat->Nat->Rat}(h:AtS H b (waS S a)){r:Nat}(hr:r<S.R)(g:Nat->Rat)(ha:∀ i,i<S.R->∀ j,j<S.n->a' i j=if i=r then g j else a i j) :
  AtS (upd H (b+100+r) (some (Q5 cR (fnG S.n g)))) b (waS S a'):=fun k hk cs hc=>by
 refine AtS.row h (r:=r) hr g k hk cs ?_;rw[ZR]at hc ⊢;by_cases c1:100<=k/\k<100+S.R
 .have c2:100<=k/\k<100+(waS S a').R:=c1
  rw[Qc c2]at hc;rw[Qc ⟨c1.1,by show k<100+S.R;omega⟩,<-hc];show some (Q5 cR (fnG S.n (if k-100=r then g else a (k-100))))=some (Q5 cR (fnG S.n (a' (k-100))));congr 2;refine Yk fun j hj=>?_
  rw[ha _ (by omega) j hj];split<;>rfl
 .have c2:¬(100<=k/\k<100+(waS S a').R):=c1
  rw[Qb c2]at hc;rw[Qb (fun h=>c1 ⟨h.1,by have:=h.2;exact this⟩),<-hc];rfl
theorem AtS.same{H:QD}{b:Nat}{S:SX}{a a':Nat->Nat->Rat}(h:AtS H b (waS S a))(ha:∀ i,i<S.R->∀ j,j<S.n->a' i j=a i j):AtS H b (waS S a'):=fun k hk cs hc=>by
 refine h k hk cs ?_;rw[ZR]at hc ⊢;by_cases c1:100<=k/\k<100+S.R
 .have c2:100<=k/\k<100+(waS S a').R:=c1
  rw[Qc c2]at hc;rw[Qc ⟨c1.1,by show k<100+S.R;omega⟩,<-hc];show some (Q5 cR (fnG S.n (a (k-100))))=some (Q5 cR (fnG S.n (a' (k-100))));congr 2;exact Yk fun j hj=>(ha _ (by omega) j hj).symm
 .have c2:¬(100<=k/\k<100+(waS S a').R):=c1
  rw[Qb c2]at hc;rw[Qb (fun h=>c1 ⟨h.1,by have:=h.2;exact this⟩),<-hc];rfl
theorem zad{i t:Nat}(h:t<1000100):(1000100+i=t)=False:=Ql (by omega)
theorem zac{i t:Nat}(h:t<1000100):(t=1000100+i)=False:=Ql (by omega)
def tr1(S:SX)(r c j i k:Nat):Rat:=if i=r then(if k<j/\k≠c then -(S.a r k*(S.a r c)⁻¹)else S.a r k)else S.a i k
def tr3(S:SX)(r c m i k:Nat):Rat:=if i=r then S.trow r c k else if i<m then S.ta r c i k else S.a i k
def tr4(S:SX)(r c m j i k:Nat):Rat:=if i=r then S.trow r c k else if i<m then S.ta r c i k else if i=m/\k<j then S.ta r c i k else S.a i k
theorem zvR(S:SX)(r c:Nat):tr1 S r c 0=S.a:=by
 funext i k;unfold tr1;by_cases e:i=r
 .rw[Qc e,Qb (fun h=>waO _ h.1),e]
 .rw[Qb e]
theorem zzv(S:SX)(r c j k:Nat):tr1 S r c j r k=if k<j/\k≠c then -(S.a r k*(S.a r c)⁻¹)else S.a r k:=Qc rfl
theorem zzw(S:SX)(r c m j k:Nat):tr4 S r c m j r k=S.trow r c k:=Qc rfl
theorem zxp{S:SX}{r c i k:Nat}(h:S.a i c=0)(hi:i≠r):S.ta r c i k=S.a i k:=by
 unfold SX.ta;rw[Qb hi];by_cases e:k=c
 .rw[Qc e,e,h,wbC]
 .rw[Qb e,h,wbC,wcZ]
theorem zxq{S:SX}{r c m i k:Nat}(hk:k<S.n)(hm:m≠r):tr4 S r c m S.n i k=tr3 S r c (m+1) i k:=by
 unfold tr4 tr3;by_cases e:i=r
 .rw[Qc e,Qc e]
 .rw[Qb e,Qb e]
  by_cases c1:i<m
  .rw[Qc c1,Qc (by omega)]
  .rw[Qb c1]
   by_cases c2:i=m
   .rw[Qc ⟨c2,hk⟩,Qc (by omega)]
   .rw[Qb (fun h=>c2 h.1),Qb (by omega)]
theorem zvS{S:SX}{r c m:Nat}:tr4 S r c m 0=tr3 S r c m:=by
 funext i k;unfold tr4 tr3;by_cases e:i=r
 .rw[Qc e,Qc e]
 .rw[Qb e,Qb e]
  by_cases c1:i<m
  .rw[Qc c1,Qc c1]
  .rw[Qb c1,Qb c1,Qb (fun h=>waO _ h.2)]
theorem zxr{S:SX}{r c k K:Nat}(h1:lQ (S.a r c)<=K)(h2:lQ (S.a r k)<=K):lQ (S.trow r c k)<=2*K:=by
 unfold SX.trow;have h3:=zjn (S.a r c);split
 .omega
 .rw[zff];have:=zfg (S.a r k) (S.a r c)⁻¹;omega
theorem zrD{n:Nat}{g:Nat->Nat}{i:Nat}(hi:i<n){y:Nat}:(Q5 cI1 (fnG n g)).take i++C.t (.lit (.int .i64 (y:Int)))::(Q5 cI1 (fnG n g)).drop (i+1)=Q5 cI1 (fnG n (fun v=>if v=i then y else g v)):=by
 have:=zgl (f:=cI1) (sz:=1) ZW hi (g:=g) (y:=y);rw[wah]at this;rw[<-this];simp[Yh,cI1]
theorem zvT{S:SX}{a0 a1:Nat->Nat->Rat}{rw' cl':Nat->Nat}(hR:S.R≠0)(hn:S.n≠0)(ha:∀ i,i<S.R->∀ j,j<S.n->a1 i j=a0 i j) :
  ∀ b,PIN<=b->upd (upd (QB (Z5 1000000 (waS S a0) [])) 1000001 (some (Q5 cI1 (fnG S.R rw')))) 1000002 (some (Q5 cI1 (fnG S.n cl'))) b=xS ⟨S.n,S.R,rw',cl',a1,S.va,S.mo⟩ b:=by
 have h1:AtS (QB (Z5 1000000 (waS S a0) [])) 1000000 (waS S a1):=AtS.same (by rw[ziO];trivial) ha;have h2:=h1.rw (S:=waS S a1) hR rw';have h3:=h2.cl hn cl';refine zyf h3 fun t ht hx=>?_
 have Vw:xS S t=none:=(zfc (S:=S) (S':=⟨S.n,S.R,rw',cl',a1,S.va,S.mo⟩) rfl rfl t).1 (by rw[zbB];exact hx);have hne:∀ k,xS S (PIN+k)≠none->t≠PIN+k:=fun k hk e=>hk (by rw[<-e];exact Vw)
 have k1:xS S (PIN+1)≠none:=by
  rw[zbB,ZR,Qb (by omega),Qc rfl];exact ziP.2 hR
 have k2:xS S (PIN+2)≠none:=by
  rw[zbB,ZR,Qb (by omega),Qb (by omega),Qc rfl];exact ziP.2 hn
 rw[zaE,Qb (hne 2 k2),zaE,Qb (hne 1 k1)];have:xS (waS S a0) t=none:=(zfc (S:=S) (S':=waS S a0) rfl rfl t).2 Vw;exact this
theorem zyH(S:SX)(r c:Nat){K:Nat}(hK:K<=400000000)(Xi:S.n+S.R<90000)(DT:∀ i j,i<S.R->j<S.n->lQ (S.a i j)<=K)(hr:r<S.R)(hc:c<S.n) :
  Zf prog 111 [.one (.ptr PIN 0),litI .i64 r,litI .i64 c] (xS S) (.tup []) (xS ⟨S.n,S.R,fun i=>if i=r then S.cl c else S.rw i,fun j=>if j=c then S.rw r else S.cl j,S.ta r c,S.va,S.mo⟩):=by
 refine zaq QC call111 func111 rfl ntmps111 results111 (by simp) (by decide) ?_ ?_ ?_ ?_ ?_
 .exact zet _
 .exact zfc rfl rfl
 .exact zdV _
 .trivial
 .have hR:S.R≠0:=by omega
  have hn:S.n≠0:=by omega
  have Vp:(S.R==0)=false:=beq_false_of_ne hR;have Xl:(S.n==0)=false:=beq_false_of_ne hn;have Xh:((r:Int)<(S.R:Int))=True:=Qf (by omega);have Jq:((c:Int)<(S.n:Int))=True:=Qf (by omega);have g3:cvC 1000003 S.R = .vec 1000003 1 0 S.R:=zgm hR;have a3:∀ {i},i<S.R->(rowsC 1000100 3 S.n S.R).drop i = .vec (1000100+i) 3 0 S.n::(rowsC 1000100 3 S.n S.R).drop (i+1):=fun h=>zcw h
  have kf:∀ {a:Nat->Nat->Rat} {i:Nat},i<S.R->∀ e,QB (Z5 1000000 (waS S a) e) (1000100+i)=some (Q5 cR (fnG S.n (a i))):=fun {a i} hi e=>by
   rw[show(1000100:Nat)=1000000+100 from rfl,zjJ,Qc (show i<(waS S a).R from hi)]
  have ca:∀ {g:Nat->Rat} {j:Nat},j<S.n->(Q5 cR (fnG S.n g)).drop (j*3)=(cR (g j)).map .t++Q5 cR ((fnG S.n g).drop (j+1)):=fun h=>Z1 zat h
  have ctf:∀ {a:Nat->Nat->Rat} {i:Nat},i<S.R->∀ D,(zbs 1000000 (waS S a) D).contains (1000100+i)=true:=fun {a i} hi D=>zwJ (b:=1000000) (S:=waS S a) hi
  have lnL:∀ {g:Nat->Rat},(Q5 cR (fnG S.n g)).length=S.n*3:=zf5;have YE:=zbj (b:=1000100) (sz:=3) (len:=S.n) (n:=S.R);have GP:=DT r c hr hc;have Yy:=zjn (S.a r c);have ov:=zlZ (S.a r c) (by omega);have xw:xS S=QB (Z5 1000000 (waS S S.a) []):=rfl;rw[xw];have kr:=kf (a:=S.a) hr;have ar:=a3 hr;have cc:=ca (g:=S.a r) hc;simp only[go_sem,PIN];simp only[go_sem,hR,g3,ar,Xh,kr,cc,Jq]
  (repeat(refine Qg (by omega) ?_))
  refine Q3 ov rfl ?_;simp only[go_sem,hR,g3,ar,Xh,QL]
  (repeat(refine Qg (by omega) ?_))
  refine QK (fun j:Nat=>stL 151 [(0,.one (.ptr 1000000 0)),(1,litI .i64 r),(2,litI .i64 c),(6,.one (.ptr 6 0)),(31,.one (.vec (1000100+r) 3 0 S.n)),(32,litI .i64 S.n),(33,litI .i64 j)]
   (Z5 1000000 (waS S (tr1 S r c j)) [(6,(cR (S.a r c)⁻¹).map .t)])) (fun j=>j<=S.n) (fun j=>S.n-j) 0 ?_ (Qk _) ?_
  .rw[zvR]
   have ct:=ctf (a:=S.a) hr
   (refine Q7 rfl ?_ ?_ ?_ ?_<;>(try simp only[go_sem,QL,ZY,zaL,ct])<;>(try simp))
  .intro j hj
   simp only[go_sem];refine QI (fun Yw=>?_) (fun YG=>?_)
   .have Yv:j<S.n:=by omega
    have kj:=kf (a:=tr1 S r c j) hr;have cj:=ca (g:=tr1 S r c j r) Yv;rw[zzv,Qb (fun h=>wa8 _ h.1)]at cj;have ct:=ctf (a:=tr1 S r c (j+1)) hr;have Tn:=DT r j hr Yv;have hm:=zfg (S.a r j) (S.a r c)⁻¹;have o1:=zgj (S.a r j) (S.a r c)⁻¹ (by omega) (by omega);have o2:=zhn (S.a r j*(S.a r c)⁻¹) (by omega);have sd:=zdg (n:=S.n) (g:=tr1 S r c j r) Yv (q:=-(S.a r j*(S.a r c)⁻¹));simp only[go_sem,kj,cj,Yw,QL]
    (repeat(refine Qg (by omega) ?_))
    by_cases e:j=c
    .have e':((j:Int)=(c:Int))=True:=Qf (by omega)
     have Yx:tr1 S r c (j+1)=tr1 S r c j:=by
      funext i k;unfold tr1;by_cases ei:i=r
      .rw[Qc ei,Qc ei]
       by_cases e3:k<j/\k≠c
       .rw[Qc e3,Qc ⟨by omega,e3.2⟩]
       .rw[Qb e3,Qb (fun h=>e3 ⟨by omega,h.2⟩)]
      .rw[Qb ei,Qb ei]
     rw[Yx]at ct;simp only[go_sem,e'];refine⟨j+1,Yv,(by show S.n-(j+1)<S.n-j;omega),?_⟩
     (refine Q7 rfl ?_ ?_ ?_ ?_<;>(try simp only[go_sem,QL,ZY,zaL,ct,Yx,Q6 (n:=(j:Int)+1) (by omega) (by omega)])<;>(try simp))
    .have e':((j:Int)=(c:Int))=False:=Ql (by omega)
     have Vg:∀ {H:QD},AtS H 1000000 (waS S (tr1 S r c j))->AtS (upd H (1000100+r) (some (Q5 cR (fnG S.n fun v=>if v=j then -(S.a r j*(S.a r c)⁻¹)else tr1 S r c j r v)))) 1000000 (waS S (tr1 S r c (j+1))):=fun h =>
      AtS.row' (b:=1000000) h hr _ fun i _ k _=>by
       unfold tr1;by_cases ei:i=r
       .rw[Qc ei,Qc ei,Qc rfl]
        by_cases ek:k=j
        .rw[Qc ek,Qc ⟨by omega,by omega⟩,ek]
        .rw[Qb ek]
         by_cases e3:k<j/\k≠c
         .rw[Qc e3,Qc ⟨by omega,e3.2⟩]
         .rw[Qb e3,Qb (fun h=>e3 ⟨by omega,h.2⟩)]
       .rw[Qb ei,Qb ei,Qb ei]
     simp only[go_sem,e'];refine Q4 0 rfl ?_;simp only[go_sem,hR,g3,ar,Xh,QL]
     (repeat(refine Qg (by omega) ?_))
     ((repeat(refine Q4 0 rfl ?_;simp only[go_sem,QL]));refine Q3 (o1) rfl ?_;simp only[go_sem];(repeat(refine Q4 0 rfl ?_;simp only[go_sem,QL]));refine Q3 (o2) rfl ?_;simp only[go_sem];(repeat(refine Q4 0 rfl ?_;simp only[go_sem,QL])));have Vs:(r<S.R)=True:=Qf hr;simp only[go_sem,lnL,Yw,zad,Vs]
     (repeat(refine Qg (by omega) ?_))
     refine⟨j+1,Yv,(by show S.n-(j+1)<S.n-j;omega),?_⟩
     (refine Q7 rfl ?_ ?_ ?_ ?_<;>(try simp only[go_sem,QL,zaL,ct,zac,sd,Q6 (n:=(j:Int)+1) (by omega) (by omega)])<;>(try simp only[Qy,Qv,Qw,Qu]))
     exact Vg (by simp only[go_sem,ZY])
   .obtain rfl:j=S.n:=by omega
    have kj:=kf (a:=tr1 S r c S.n) hr;have ctr:=fun {a} D=>ctf (a:=a) hr D
    have sd:=zdg (n:=S.n) (g:=tr1 S r c S.n r) hc (q:=(S.a r c)⁻¹);have Vs:(r<S.R)=True:=Qf hr;have Vg:∀ {H:QD},AtS H 1000000 (waS S (tr1 S r c S.n))->AtS (upd H (1000100+r) (some (Q5 cR (fnG S.n fun v=>if v=c then(S.a r c)⁻¹ else tr1 S r c S.n r v)))) 1000000 (waS S (tr3 S r c 0)):=fun h =>
     AtS.row' (b:=1000000) h hr _ fun i _ k hk=>by
      unfold tr3 tr1;by_cases ei:i=r
      .rw[Qc ei,Qc ei,Qc rfl]
       unfold SX.trow;by_cases ek:k=c
       .rw[Qc ek,Qc ek]
       .rw[Qb ek,Qb ek,Qc ⟨hk,ek⟩]
      .rw[Qb ei,Qb ei,Qb ei,Qb (waO _)]
    simp only[go_sem];refine Q4 0 rfl ?_;simp only[go_sem,hR,g3,ar,Xh,kj,lnL,Jq,QL,zac]
    (repeat(refine Qg (by omega) ?_))
    refine QK (fun m:Nat=>stL 151 [(0,.one (.ptr 1000000 0)),(1,litI .i64 r),(2,litI .i64 c),(68,.one (.vec 1000003 1 0 S.R)),(69,litI .i64 S.R),(70,litI .i64 m)]
     (Z5 1000000 (waS S (tr3 S r c m)) [])) (fun m=>m<=S.R) (fun m=>S.R-m) 0 ?_ (Qk _) ?_
    ·(refine Q7 rfl ?_ ?_ ?_ ?_<;>(try simp only[go_sem,Vp,sd])<;>(try simp only[Qy,Qv,Qu]))
     exact Vg (by simp only[go_sem])
    .intro m hm
     simp only[go_sem];refine QI (fun KM=>?_) (fun UG=>?_)
     .have Xo:m<S.R:=by omega
      have NK:(m<S.R)=True:=Qf Xo;have am:=a3 Xo;have km:=kf (a:=tr3 S r c m) Xo;have ctm:=fun {a} D=>ctf (a:=a) Xo D
      have cm:=ca (g:=tr3 S r c m m) hc;simp only[go_sem,hR,am,KM,km,cm,Jq,QL]
      (repeat(refine Qg (by omega) ?_))
      by_cases em:m=r
      .have em':((m:Int)=(r:Int))=True:=Qf (by omega)
       have Yx:tr3 S r c (m+1)=tr3 S r c m:=by
        funext i k;unfold tr3;by_cases ei:i=r
        .rw[Qc ei,Qc ei]
        .rw[Qb ei,Qb ei]
         by_cases e3:i<m
         .rw[Qc e3,Qc (by omega)]
         .rw[Qb e3,Qb (by omega)]
       simp only[go_sem,em'];refine⟨m+1,Xo,(by show S.R-(m+1)<S.R-m;omega),?_⟩
       (refine Q7 rfl ?_ ?_ ?_ ?_<;>(try simp only[go_sem,ZY,Vp,Yx,Q6 (n:=(m:Int)+1) (by omega) (by omega)])<;>(try simp only[Qy,Qv,Qu]))
      .have em':((m:Int)=(r:Int))=False:=Ql (by omega)
       have Ef:tr3 S r c m m c=S.a m c:=by unfold tr3;rw[Qb em,Qb (wa8 _)]
       rw[Ef]at cm;have Sm:=DT m c Xo hc;have sg:=ze3 (S.a m c) (by omega);have MO:(S.a m c).num.sign=0↔S.a m c=0:=by rw[wb6,wdk]
       simp only[go_sem,em',Ef];refine Q3 sg rfl ?_;by_cases ez:S.a m c=0
       .have ez':((S.a m c).num.sign=0)=True:=Qf (MO.2 ez)
        have UT:∀ {H:QD},AtS H 1000000 (waS S (tr3 S r c m))->AtS H 1000000 (waS S (tr3 S r c (m+1))):=fun h =>
         AtS.same h fun i _ k _=>by
          unfold tr3;by_cases ei:i=r
          .rw[Qc ei,Qc ei]
          .rw[Qb ei,Qb ei]
           by_cases e3:i<m
           .rw[Qc e3,Qc (by omega)]
           .rw[Qb e3]
            by_cases e4:i=m
            .rw[Qc (by omega),zxp (by rw[e4];exact ez) ei]
            .rw[Qb (by omega)]
        simp only[go_sem,ez'];refine⟨m+1,Xo,(by show S.R-(m+1)<S.R-m;omega),?_⟩
        (refine Q7 rfl ?_ ?_ ?_ ?_<;>(try simp only[go_sem,ZY,Vp,Q6 (n:=(m:Int)+1) (by omega) (by omega)])<;>(try simp only[Qy,Qv,Qu]))
        exact UT (by simp only[go_sem])
       .have ez':((S.a m c).num.sign=0)=False:=Ql (fun h=>ez (MO.1 h))
        have kr3:=kf (a:=tr3 S r c m) hr;have Vs:(r<S.R)=True:=Qf hr;simp only[go_sem,ez',hR,g3,ar,Xh]
        (repeat(refine Qg (by omega) ?_))
        refine QK (fun j:Nat=>stL 151 [(0,.one (.ptr 1000000 0)),(1,litI .i64 r),(2,litI .i64 c),(10,.one (.vec (1000100+m) 3 0 S.n)),(11,.one (.ptr 11 0)),(68,.one (.vec 1000003 1 0 S.R)),(69,litI .i64 S.R),(70,litI .i64 m),(93,.one (.vec (1000100+r) 3 0 S.n)),(94,litI .i64 S.n),(95,litI .i64 j)]
         (Z5 1000000 (waS S (tr4 S r c m j)) [(11,(cR (S.a m c)).map .t)])) (fun j=>j<=S.n) (fun j=>S.n-j) 0 ?_ (Qk _) ?_
        .rw[zvS]
         (refine Q7 rfl ?_ ?_ ?_ ?_<;>(try simp only[go_sem,QL,ZY,zaL,Vp,ctm,ctr])<;>(try simp only[Qy,Qv,Qw,Qu]))
        .intro j hj
         simp only[go_sem];refine QI (fun VH=>?_) (fun L4=>?_)
         .have XL:j<S.n:=by omega
          have kj:=kf (a:=tr4 S r c m j) hr;have kmj:=kf (a:=tr4 S r c m j) Xo;have cj:=ca (g:=tr4 S r c m j r) XL;rw[zzw]at cj;have cmj:=ca (g:=tr4 S r c m j m) XL;have Sn:tr4 S r c m j m j=S.a m j:=by unfold tr4;rw[Qb em,Qb (wa8 _),Qb (fun h=>wa8 _ h.2)]
          rw[Sn]at cmj;have lx:=zxr GP (DT r j hr XL);have lf:=zfg (S.a m c) (S.trow r c j);have lmj:=DT m j Xo XL;have o1:=zgj (S.a m c) (S.trow r c j) (by omega) (by omega);have sx:=ze3 (S.trow r c j) (by omega);have MP:(S.trow r c j).num.sign=0↔S.trow r c j=0:=by rw[wb6,wdk]
          have Vg:∀ {H:QD},AtS H 1000000 (waS S (tr4 S r c m j))->AtS (upd H (1000100+m) (some (Q5 cR (fnG S.n fun v=>if v=j then S.ta r c m j else tr4 S r c m j m v)))) 1000000 (waS S (tr4 S r c m (j+1))):=fun h =>
           AtS.row' (b:=1000000) h Xo _ fun i _ k _=>by
            unfold tr4;by_cases ei:i=r
            .rw[Qc ei,Qb (by omega),Qc ei]
            .rw[Qb ei,Qb ei]
             by_cases e3:i<m
             .rw[Qc e3,Qb (by omega),Qc e3]
             .rw[Qb e3,Qb e3]
              by_cases e4:i=m
              .rw[Qc e4]
               by_cases ek:k=j
               .rw[Qc ⟨e4,by omega⟩,Qc ek,e4,ek]
               .rw[Qb ek,Qb em,Qb (wa8 _)]
                by_cases e5:k<j
                .rw[Qc ⟨e4,by omega⟩,Qc ⟨rfl,e5⟩,e4]
                .rw[Qb (fun h=>by omega),Qb (fun h=>e5 h.2),e4]
              .rw[Qb (fun h=>e4 h.1),Qb e4,Qb (fun h=>e4 h.1)]
          have Lk:j=c->S.a m c*S.trow r c j=S.ta r c m j:=fun e=>by unfold SX.ta;rw[Qb em,Qc e,e]
          have DU:j≠c->S.a m j+S.a m c*S.trow r c j=S.ta r c m j:=fun e=>by unfold SX.ta;rw[Qb em,Qb e]
          simp only[go_sem,kj,cj,VH,QL]
          (repeat(refine Qg (by omega) ?_))
          by_cases ec:j=c
          .have ec':((j:Int)=(c:Int))=True:=Qf (by omega)
           rw[Lk ec]at o1;have sd:=zdg (n:=S.n) (g:=tr4 S r c m j m) XL (q:=S.ta r c m j);simp only[go_sem,ec',QL];refine Q3 o1 rfl ?_;simp only[go_sem,kmj,lnL,VH,zad]
           (repeat(refine Qg (by omega) ?_))
           refine⟨j+1,XL,(by show S.n-(j+1)<S.n-j;omega),?_⟩
           (refine Q7 rfl ?_ ?_ ?_ ?_<;>(try simp only[go_sem,QL,zaL,Vp,ctm,ctr,zac,sd,Q6 (n:=(j:Int)+1) (by omega) (by omega)])<;>(try simp only[Qy,Qv,Qw,Qu]))
           exact Vg (by simp only[go_sem,ZY])
          .have ec':((j:Int)=(c:Int))=False:=Ql (by omega)
           simp only[go_sem,ec',QL];refine Q3 sx rfl ?_;by_cases ex:S.trow r c j=0
           .have ex':((S.trow r c j).num.sign=0)=True:=Qf (MP.2 ex)
            have UT:∀ {H:QD},AtS H 1000000 (waS S (tr4 S r c m j))->AtS H 1000000 (waS S (tr4 S r c m (j+1))):=fun h =>
             AtS.same h fun i _ k _=>by
              unfold tr4;by_cases ei:i=r
              .rw[Qc ei,Qc ei]
              .rw[Qb ei,Qb ei]
               by_cases e3:i<m
               .rw[Qc e3,Qc e3]
               .rw[Qb e3,Qb e3]
                by_cases e4:i=m/\k<j
                .rw[Qc e4,Qc ⟨e4.1,by omega⟩]
                .rw[Qb e4]
                 by_cases e5:i=m/\k=j
                 .rw[Qc ⟨e5.1,by omega⟩,e5.1,e5.2,<-DU ec,ex,wcp,wcZ]
                 .rw[Qb (fun h=>by omega)]
            simp only[go_sem,ex'];refine⟨j+1,XL,(by show S.n-(j+1)<S.n-j;omega),?_⟩
            (refine Q7 rfl ?_ ?_ ?_ ?_<;>(try simp only[go_sem,QL,ZY,zaL,Vp,ctm,ctr,Q6 (n:=(j:Int)+1) (by omega) (by omega)])<;>(try simp only[Qy,Qv,Qw,Qu]))
            exact UT (by simp only[go_sem])
           .have ex':((S.trow r c j).num.sign=0)=False:=Ql (fun h=>ex (MP.1 h))
            have o2:=zgx (S.a m j) (S.a m c*S.trow r c j) (by omega) (by omega);rw[DU ec]at o2;have sd:=zdg (n:=S.n) (g:=tr4 S r c m j m) XL (q:=S.ta r c m j);simp only[go_sem,ex'];refine Q4 0 rfl ?_;simp only[go_sem,kmj,cmj,VH,QL,zad]
            (repeat(refine Qg (by omega) ?_))
            ((repeat(refine Q4 0 rfl ?_;simp only[go_sem,QL,zad,zac]));refine Q3 (o1) rfl ?_;simp only[go_sem];(repeat(refine Q4 0 rfl ?_;simp only[go_sem,QL,zad,zac]));refine Q3 (o2) rfl ?_;simp only[go_sem,zad];(repeat(refine Q4 0 rfl ?_;simp only[go_sem,QL,zad,zac])));simp only[go_sem,lnL,VH,NK]
            (repeat(refine Qg (by omega) ?_))
            refine⟨j+1,XL,(by show S.n-(j+1)<S.n-j;omega),?_⟩
            (refine Q7 rfl ?_ ?_ ?_ ?_<;>(try simp only[go_sem,QL,zaL,Vp,ctm,ctr,zac,sd,Q6 (n:=(j:Int)+1) (by omega) (by omega)])<;>(try simp only[Qy,Qv,Qw,Qu]))
            exact Vg (by simp only[go_sem,ZY])
         .obtain rfl:j=S.n:=by omega
          have UT:∀ {H:QD},AtS H 1000000 (waS S (tr4 S r c m S.n))->AtS H 1000000 (waS S (tr3 S r c (m+1))):=fun h =>
           AtS.same h fun i _ k hk=>(zxq hk em).symm
          simp only[go_sem];refine⟨m+1,Xo,(by show S.R-(m+1)<S.R-m;omega),?_⟩
          (refine Q7 rfl ?_ ?_ ?_ ?_<;>(try simp only[go_sem,Vp,Q6 (n:=(m:Int)+1) (by omega) (by omega)])<;>(try simp only[Qy,Qv,Qu]))
          exact UT (by simp only[go_sem])
     .obtain rfl:m=S.R:=by omega
      have g1:=zda (b:=1000001) (sz:=1) (g:=S.rw) hR;have g2:=zda (b:=1000002) (sz:=1) (g:=S.cl) hn;have i1:=Z1 (f:=cI1) (sz:=1) (g:=S.rw) (n:=S.R) (i:=r) ZW hr;have i2:=Z1 (f:=cI1) (sz:=1) (g:=S.cl) (n:=S.n) (i:=c) ZW hc;rw[wah]at i1 i2;have e1:∀ {g:Nat->Nat},(Q5 cI1 (fnG S.R g)).length=S.R:=by intro g;rw[zbm ZW,wah]
      have e2:∀ {g:Nat->Nat},(Q5 cI1 (fnG S.n g)).length=S.n:=by intro g;rw[zbm ZW,wah]
      have s1:=zrD (g:=S.rw) hr (y:=S.cl c);have s2:=zrD (g:=S.cl) hc (y:=S.rw r);simp only[go_sem];refine Q4 0 rfl ?_;simp only[go_sem,hR,hn,g1,g2,i1,i2,Xh,Jq]
      (repeat(refine Qg (by omega) ?_))
      simp only[go_sem,e1,e2,s1,s2]
      (repeat(refine Qg (by omega) ?_))
      exact zgB (.inl rfl) (zvT hR hn fun i hi k _=>by
       unfold tr3;by_cases ei:i=r
       .rw[Qc ei];unfold SX.ta;rw[Qc ei]
       .rw[Qb ei,Qc hi])
abbrev wvS(S:SX)(va:Nat->Rat):SX:=⟨S.n,S.R,S.rw,S.cl,S.a,va,S.mo⟩
theorem AtS.va'{H:QD}{b:Nat}{S:SX}{va:Nat->Rat}(h:AtS H b (wvS S va))(va':Nat->Rat):AtS (upd H (b+5) (some (Q5 cR (fnG (S.n+S.R) va')))) b (wvS S va'):=AtS.va h va'
theorem xS_5{S:SX}(h:xS S 1000005=none):False:=by
 have:xS S (PIN+5)=none:=h;rw[zbB,ZR,Qb (by omega),Qb (by omega),Qb (by omega),Qb (by omega),Qb (by omega),Qb (by omega),Qc rfl]at this;cases this
theorem zsL{S' S0:SX}(hn:S'.n=S0.n)(hR:S'.R=S0.R){H:QD}(hH:∀ b,PIN<=b->H b≠none->xS S0 b≠none):∀ b,PIN<=b->(QB (Zp PIN S') b).or (H b)=xS S' b:=fun b hb=>by
 rw[zbB];cases hx:QB (Zp PIN S') b with
 |some cs=>rfl
 |none =>
  show H b=none;refine waD fun hne=>hH b hb hne ?_
  exact(zfc hn hR b).1 (by rw[zbB];exact hx)
theorem zuL{A:Nat->Nat->Rat}{n R:Nat}(S:SX)(hI:InvX A n R S)(r c:Nat){K:Nat}(hK:K<=400000000)(hB:BdX K S)(hr:r<S.R)(hc:c<S.n)(Kx:S.n<=S.rw r) :
  Zf prog 61 [.one (.ptr PIN 0),litI .i64 r,litI .i64 c] (xS S) (.tup []) (xS (S.piv r c)):=by
 have Xi:=hB.dim;refine zaq QC call61 func61 rfl ntmps61 results61 (by simp) (by decide) ?_ ?_ ?_ ?_ ?_
 .exact zet _
 .exact zfc rfl rfl
 .exact zdV _
 .trivial
 .have hR:S.R≠0:=by omega
  have hn:S.n≠0:=by omega
  have Vp:(S.R==0)=false:=beq_false_of_ne hR;have Xl:(S.n==0)=false:=beq_false_of_ne hn;have Xh:((r:Int)<(S.R:Int))=True:=Qf (by omega);have Jq:((c:Int)<(S.n:Int))=True:=Qf (by omega);have g1:=zda (b:=1000001) (sz:=1) (g:=S.rw) hR;have g2:=zda (b:=1000002) (sz:=1) (g:=S.cl) hn;have g4:=zda (b:=1000004) (sz:=3) (g:=S.mo) hR;have g3:cvC 1000003 S.R = .vec 1000003 1 0 S.R:=zgm hR;have i1:∀ {i},i<S.R->(Q5 cI1 (fnG S.R S.rw)).drop i=(cI1 (S.rw i)).map .t++Q5 cI1 ((fnG S.R S.rw).drop (i+1)):=fun {i} hi=>by
   have:=Z1 (f:=cI1) (sz:=1) (g:=S.rw) (n:=S.R) (i:=i) ZW hi;rwa[wah]at this
  have i2:=Z1 (f:=cI1) (sz:=1) (g:=S.cl) (n:=S.n) (i:=c) ZW hc;rw[wah]at i2;have e1:∀ {g:Nat->Nat},(Q5 cI1 (fnG S.R g)).length=S.R:=by intro g;rw[zbm ZW,wah]
  have e2:∀ {g:Nat->Nat},(Q5 cI1 (fnG S.n g)).length=S.n:=by intro g;rw[zbm ZW,wah]
  have a3:∀ {i},i<S.R->(rowsC 1000100 3 S.n S.R).drop i = .vec (1000100+i) 3 0 S.n::(rowsC 1000100 3 S.n S.R).drop (i+1):=fun h=>zcw h
  have YE:=zbj (b:=1000100) (sz:=3) (len:=S.n) (n:=S.R);have kf:∀ {va:Nat->Rat} {i:Nat},i<S.R->∀ e,QB (Z5 1000000 (wvS S va) e) (1000100+i)=some (Q5 cR (fnG S.n (S.a i))):=fun {va i} hi e=>by
   rw[show(1000100:Nat)=1000000+100 from rfl,zjJ,Qc (show i<(wvS S va).R from hi)]
  have ca:∀ {g:Nat->Rat} {j:Nat},j<S.n->(Q5 cR (fnG S.n g)).drop (j*3)=(cR (g j)).map .t++Q5 cR ((fnG S.n g).drop (j+1)):=fun h=>Z1 zat h
  have cv:∀ {g:Nat->Rat} {j:Nat},j<S.n+S.R->(Q5 cR (fnG (S.n+S.R) g)).drop (j*3)=(cR (g j)).map .t++Q5 cR ((fnG (S.n+S.R) g).drop (j+1)):=fun h=>Z1 zat h
  have cm:∀ {g:Nat->Rat} {j:Nat},j<S.R->(Q5 cR (fnG S.R g)).drop (j*3)=(cR (g j)).map .t++Q5 cR ((fnG S.R g).drop (j+1)):=fun h=>Z1 zat h
  have lnN:∀ {g:Nat->Rat},(Q5 cR (fnG S.n g)).length=S.n*3:=zf5;have lnR:∀ {g:Nat->Rat},(Q5 cR (fnG S.R g)).length=S.R*3:=zf5;have lnV:∀ {g:Nat->Rat},(Q5 cR (fnG (S.n+S.R) g)).length=(S.n+S.R)*3:=zf5;have Ex:=hB.rw r hr;have GO:=hB.cl c hc;have GP:=hB.a r c hr hc;have K0:=hB.ov Ex;have Yy:=zjn (S.a r c);have lby:lQ (S.by' r c)<=3*K+1:=by
   unfold SX.by';have:=zfg (-(S.ov (S.rw r))) (S.a r c)⁻¹;rw[zff]at this;omega
  have rd:=fun {H} hH=>zlu S (S.rw r) (K:=K) (by omega) hB Ex 1000000 (H:=H) hH
  have o1:=zhn (S.ov (S.rw r)) (by omega);have o2:=zlZ (S.a r c) (by omega);have o3:=zgj (-(S.ov (S.rw r))) (S.a r c)⁻¹ (by rw[zff];omega) (by omega);have eby : -(S.ov (S.rw r))*(S.a r c)⁻¹=S.by' r c:=rfl;rw[eby]at o3;have xw:xS S=QB (Z5 1000000 (wvS S S.va) []):=rfl;rw[xw];have ir:=i1 hr;have ar:=a3 hr;have kr:=kf (va:=S.va) hr;have cr:=ca (g:=S.a r) hc;have Vs:(r<S.R)=True:=Qf hr;simp only[go_sem,PIN];refine Q4 0 rfl ?_;simp only[go_sem,hR,hn,g1,g2,ir,i2,Xh,Jq]
  (repeat(refine Qg (by omega) ?_))
  refine Q4 3 rfl ?_;simp only[go_sem];refine zhk (rd (by simp only[go_sem])) ?_;simp only[go_sem];refine Q3 o1 rfl ?_;simp only[go_sem,hR,g3,ar,Xh,kr,cr,Jq]
  (repeat(refine Qg (by omega) ?_))
  refine Q3 o2 rfl ?_;simp only[go_sem];refine Q3 o3 rfl ?_;simp only[go_sem,QL];obtain⟨y,hy⟩:∃ y,y=S.cl c:=⟨_,rfl⟩
  rw[<-hy]at GO;have LC:((y:Int)<((S.n+S.R:Nat):Int))=True:=Qf (by omega);have GQ:((y:Int)<(S.n:Int)+(S.R:Int))=True:=Qf (by omega);have cvy:=cv (g:=S.va) GO;have lvy:=hB.va y GO;have o4:=zgx (S.va y) (S.by' r c) (by omega) (by omega);have sd0:=zdg (n:=S.n+S.R) (g:=S.va) GO (q:=S.va y+S.by' r c);have h0:(fun v=>if v=y then S.va y+S.by' r c else S.va v)=S.vrow r c 0:=by
   funext v;show _=if v=S.cl c then S.va v+S.by' r c else S.va v
   rw[hy];by_cases e:v=S.cl c
   .rw[Qc e,Qc e,e]
   .rw[Qb e,Qb e]
  rw[h0]at sd0;rw[<-hy];refine Q4 0 rfl ?_;simp only[go_sem,QL,LC,cvy]
  (repeat(refine Qg (by omega) ?_))
  ((repeat(refine Q4 0 rfl ?_;simp only[go_sem,QL]));refine Q3 (o4) rfl ?_;simp only[go_sem];(repeat(refine Q4 0 rfl ?_;simp only[go_sem,QL])));simp only[go_sem,LC,lnV];refine⟨by omega,by omega,?_⟩;have Gb:=hI.en;have S9:=hI.eR;have FI:∀ i,i<S.R->i≠r->S.vrow r c i (S.rw i)=S.va (S.rw i):=fun i hi Ey=>by
   have:=(zjl hI (r:=r) (c:=c) (by omega) (by omega) i (by omega)).2.2.1 i (by omega) Ey;rw[Qb (wa8 _)]at this;exact this
  refine QK (fun i:Nat=>stL 125 [(0,.one (.ptr 1000000 0)),(1,litI .i64 r),(2,litI .i64 c),(6,litI .i64 (S.rw r)),(8,.one (.ptr 8 0)),(63,.one (.vec 1000001 1 0 S.R)),(64,litI .i64 S.R),(65,litI .i64 i)]
   (Z5 1000000 (wvS S (S.vrow r c i)) [(8,(cR (S.by' r c)).map .t)])) (fun i=>i<=S.R) (fun i=>S.R-i) 0 ?_ (Qk _) ?_
  ·(refine Q7 rfl ?_ ?_ ?_ ?_<;>(try simp only[go_sem,QL,zaL,Vp,g1,sd0])<;>(try simp only[Qy,Qv,Qw,Qu]))
   exact AtS.va' (b:=1000000) (va:=S.va) (by simp only[go_sem,ZY]) _
  .intro i hi
   simp only[go_sem];refine QI (fun Yw=>?_) (fun YG=>?_)
   .have Yv:i<S.R:=by omega
    have ii:=i1 Yv;have ai:=a3 Yv;have OC:(i<S.R)=True:=Qf Yv;simp only[go_sem,hR,ii,Yw]
    (repeat(refine Qg (by omega) ?_))
    by_cases e:i=r
    .have e':((i:Int)=(r:Int))=True:=Qf (by omega)
     have Yx:S.vrow r c (i+1)=S.vrow r c i:=by show(if i=r then _ else _)=_;rw[Qc e]
     simp only[go_sem,e'];refine⟨i+1,Yv,(by show S.R-(i+1)<S.R-i;omega),?_⟩
     (refine Q7 rfl ?_ ?_ ?_ ?_<;>(try simp only[go_sem,QL,zaL,Vp,Yx,Q6 (n:=(i:Int)+1) (by omega) (by omega)])<;>(try simp only[Qy,Qv,Qw,Qu]))
    .have e':((i:Int)=(r:Int))=False:=Ql (by omega)
     have Yx:S.vrow r c (i+1)=fun v=>if v=S.rw i then S.vrow r c i v+S.a i c*S.by' r c else S.vrow r c i v:=by show(if i=r then _ else _)=_;rw[Qb e]
     have Ez:=hB.rw i Yv;obtain⟨v,hv⟩:∃ v,v=S.rw i:=⟨_,rfl⟩
     have YO:=FI i Yv e;rw[<-hv]at Ez YO Yx;have LD:((v:Int)<(S.n:Int)+(S.R:Int))=True:=Qf (by omega);have Va:((0:Int)<=(v:Int))=True:=Qf (by omega);have kri:=kf (va:=S.vrow r c i) Yv;have cri:=ca (g:=S.a i) hc;have cvi:=cv (g:=S.vrow r c i) Ez;rw[YO]at cvi;have la:=hB.a i c Yv hc;have lv:=hB.va v Ez;have lm:=zfg (S.a i c) (S.by' r c);have o5:=zgj (S.a i c) (S.by' r c) (by omega) (by omega);have o6:=zgx (S.va v) (S.a i c*S.by' r c) (by omega) (by omega);have sd:=zdg (n:=S.n+S.R) (g:=S.vrow r c i) Ez (q:=S.va v+S.a i c*S.by' r c);have J9:(fun u=>if u=v then S.va v+S.a i c*S.by' r c else S.vrow r c i u)=S.vrow r c (i+1):=by
      rw[Yx];funext u;by_cases eu:u=v
      .rw[Qc eu,Qc eu,eu,YO]
      .rw[Qb eu,Qb eu]
     rw[J9]at sd;simp only[go_sem,e'];rw[<-hv];refine Q4 0 rfl ?_;simp only[go_sem,hR,g3,ai,Yw,kri,cri,Jq,cvi,Va,QL]
     (repeat(refine Qg (by omega) ?_))
     ((repeat(refine Q4 0 rfl ?_;simp only[go_sem,QL]));refine Q3 (o5) rfl ?_;simp only[go_sem];(repeat(refine Q4 0 rfl ?_;simp only[go_sem,QL]));refine Q3 (o6) rfl ?_;simp only[go_sem];(repeat(refine Q4 0 rfl ?_;simp only[go_sem,QL])));simp only[go_sem,Va,lnV]
     (repeat(refine Qg (by omega) ?_))
     refine⟨i+1,Yv,(by show S.R-(i+1)<S.R-i;omega),?_⟩
     (refine Q7 rfl ?_ ?_ ?_ ?_<;>(try simp only[go_sem,QL,zaL,Vp,sd,Q6 (n:=(i:Int)+1) (by omega) (by omega)])<;>(try simp only[Qy,Qv,Qw,Qu]))
     exact AtS.va' (b:=1000000) (va:=S.vrow r c i) (by simp only[go_sem]) _
   .obtain rfl:i=S.R:=by omega
    obtain⟨x,hx⟩:∃ x,x=S.rw r:=⟨_,rfl⟩
    obtain⟨j0,XY⟩:∃ j,j=x-S.n:=⟨_,rfl⟩
    rw[<-hx]at Ex Kx;have RQ:IntKind.i64.wrap ((x:Int)-(S.n:Int))=(j0:Int):=by rw[Q6 (by omega) (by omega)];omega
    have VB:((j0:Int)<(S.R:Int))=True:=Qf (by omega);have X1:((0:Int)<=(j0:Int))=True:=Qf (by omega);have LE:((x:Int)<(S.n:Int)+(S.R:Int))=True:=Qf (by omega);have WE:((0:Int)<=(x:Int))=True:=Qf (by omega);have cmj:=cm (g:=S.mo) (j:=j0) (by omega);have sd:=zdg (n:=S.n+S.R) (g:=S.vrow r c S.R) Ex (q:=S.mo j0);have J9:(fun u=>if u=x then S.mo j0 else S.vrow r c S.R u)=S.tva r c:=by
     funext u;show _=if u=S.rw r then S.mo (S.rw r-S.n)else S.vrow r c S.R u
     rw[<-hx,<-XY]
    rw[J9]at sd;have tu:=zyH (wvS S (S.tva r c)) r c hK Xi hB.a hr hc;simp only[go_sem];rw[<-hx];refine Q4 0 rfl ?_;simp only[go_sem,hR,g4,cmj,RQ,VB,X1,WE]
    (repeat(refine Qg (by omega) ?_))
    simp only[go_sem,lnV,sd]
    (repeat(refine Qg (by omega) ?_))
    refine zof (S:=wvS S (S.tva r c)) (S':=S.piv r c) 1000000 (.inr rfl) tu rfl rfl rfl (Q2.2 ⟨zfy,Q2.2 ⟨trivial,Q2.2 ⟨trivial,fun x hx=>by cases hx⟩⟩⟩) ?_ ?_
    .exact AtS.va' (b:=1000000) (va:=S.vrow r c S.R) (S:=S) (by simp only[go_sem]) (S.tva r c)
    .simp only[go_sem]
     refine zgB (.inl rfl) (zsL (S':=S.piv r c) (S0:=wvS S (S.vrow r c S.R)) rfl rfl (H:=upd (QB (Z5 1000000 (wvS S (S.vrow r c S.R)) [(8,(cR (S.by' r c)).map .t)])) 1000005 (some (Q5 cR (fnG (S.n+S.R) (S.tva r c))))) fun b hb hne=>?_);intro X9;apply hne;show upd (QB (Z5 1000000 (wvS S (S.vrow r c S.R)) [(8,_)])) 1000005 _ b=none;rw[zaE,Qb (fun e=>xS_5 (e▸X9)),zo6 (by intro k hk;simp at hk;subst hk;decide) hb];exact X9
end Go.Proofs.YtlgjjcmljmjenaaGreat
