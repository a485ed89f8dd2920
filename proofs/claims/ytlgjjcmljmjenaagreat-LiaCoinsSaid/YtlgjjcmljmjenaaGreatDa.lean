/- At every input the call answers true and leaves its arguments as they were; no conditions. -/
import Derived.Test.YtlgjjcmljmjenaaGreatCb
import Derived.Test.YtlgjjcmljmjenaaGreatAg
import Derived.Test.YtlgjjcmljmjenaaGreatNb
set_option linter.unusedSimpArgs false
set_option linter.unusedVariables false
set_option maxRecDepth 100000
set_option maxHeartbeats 32000000
namespace Go.Proofs.YtlgjjcmljmjenaaGreat
open Go Go.Abs Go.Proofs.Tryz
def cI1(v:Nat):List T:=[.lit (.int .i64 (v:Int))]
theorem Ya(v:Nat):(cI1 v).length=1:=rfl
attribute [go_sem] cI1
def zb3(b:Nat)(S:SX):List C:=[QX (b+1) 1 (fnG S.R S.rw),QX (b+2) 1 (fnG S.n S.cl),cvC (b+3) S.R,.t (.lit (.int .i64 (S.n:Int))),QX (b+4) 3 (fnG S.R S.mo),.vec (b+5) 3 0 (S.n+S.R)]
def Zs(b:Nat)(S:SX):List (Nat×List C) :=
 zad (b+100) cR (fun i=>fnG S.n (S.a i)) S.R++(Zb (b+1) cI1 (fnG S.R S.rw)++(Zb (b+2) cI1 (fnG S.n S.cl)++(cvE (b+3) S.R (rowsC (b+100) 3 S.n S.R)++(Zb (b+4) cR (fnG S.R S.mo)++[(b,zb3 b S),(b+5,Q5 cR (fnG (S.n+S.R) S.va))]))))
def Z6(b:Nat)(S:SX)(e:List (Nat×List C)):List (Nat×List C):=Zs b S++e
theorem zkZ(b:Nat)(S:SX):Z6 b S []=Zs b S:=wak _
def xS(S:SX):QE:=Q9 (Z6 PIN S [])
theorem zbD(S:SX):xS S=Q9 (Zs PIN S):=by unfold xS;rw[zkZ]
theorem zgc(b:Nat)(S:SX):(Zs b S).map (·.1)=zco (b+100) S.R++(cvD (b+1) S.R++(cvD (b+2) S.n++(cvD (b+3) S.R++(cvD (b+4) S.R++[b,b+5])))):=by
 unfold Zs;rw[waK,waK,waK,waK,waK,zlc,zli,zli,zvR,zli,zln,zln,zln];rfl
theorem zet{b k:Nat}{S:SX}(h:k∈(Zs b S).map (·.1)):b<=k/\k<b+100+S.R:=by
 rw[zgc]at h;have Gu:∀ {c n:Nat},k∈cvD c n->k=c:=fun {c n} h=>by
  unfold cvD at h;split at h
  .cases h
  .exact Qr.1 h
 rcases wao.1 h with h|h
 .unfold zco at h
  obtain⟨i,hi,rfl⟩:=Qp.1 h;have:=wav.1 hi;omega
 .rcases wao.1 h with h|h
  .have:=Gu h;omega
  .rcases wao.1 h with h|h
   .have:=Gu h;omega
   .rcases wao.1 h with h|h
    .have:=Gu h;omega
    .rcases wao.1 h with h|h
     .have:=Gu h;omega
     .rcases wad.1 h with h|h
      .omega
      .have:=Qr.1 h;omega
theorem zeu(S:SX)(b:Nat)(h:b<PIN):xS S b=none:=by rw[zbD];exact zdV (fun k hk=>(zet hk).1) b h
theorem zfj{S S':SX}(h1:S'.n=S.n)(h2:S'.R=S.R)(b:Nat):xS S' b=none↔xS S b=none:=by
 rw[zbD,zbD,zbi,zbi,zgc,zgc,h1,h2]
theorem zk0(b:Nat)(S:SX):QT ((Zs b S).map (·.1)) (Zs b S)=true:=by
 rw[zgc];unfold Zs;have hD:∀ {D:List Nat} {c n:Nat},(n==0||(cvD c n++D).contains c)=true:=fun {D c n}=>by
  rw[zr9];by_cases h:n=0
  .simp[h]
  .simp[h]
 have hm:∀ {D D':List Nat} {n c:Nat},(n==0||D.contains c)=true->(n==0||(D'++D).contains c)=true:=fun {D D' n c} h=>by
  rw[wbL]at h ⊢;rcases h with h|h
  .exact .inl h
  .right;rw[waH]at h ⊢;exact wbJ _ h
 rw[zkM,ziT,ziT,zuf,ziT,zkq];rw[wc4,wbD];unfold zb3;simp only[QT,wdV,List.all_nil,zua,zug,zwt,ztl,zm6,QF,wdp,wbD,waj];refine⟨hm hD,hm (hm hD),hm (hm (hm hD)),hm (hm (hm (hm hD))),?_⟩;rw[waH];exact wbJ _ (wbJ _ (wbJ _ (wbJ _ (wbJ _ (by simp)))))
theorem zd0(S:SX):∀ b cs,xS S b=some cs->∀ c∈cs,inC (xS S) c:=by rw[zbD];exact zb8 (zk0 PIN S)
theorem zfI{S:SX}:inA (xS S) (.one (.ptr PIN 0)):=by
 show xS S PIN≠none;rw[zbD,Ne,zbi,zgc];intro h;exact h (by simp)
theorem ZT(b:Nat)(S:SX)(k:Nat):Q9 (Zs b S) (b+k)=if 100<=k/\k<100+S.R then some (Q5 cR (fnG S.n (S.a (k-100))))else if k=1 then ZK cI1 (fnG S.R S.rw) none else if k=2 then ZK cI1 (fnG S.n S.cl) none
  else if k=3 then(if S.R=0 then none else some (rowsC (b+100) 3 S.n S.R))else if k=4 then ZK cR (fnG S.R S.mo) none else if k=0 then some (zb3 b S)else if k=5 then some (Q5 cR (fnG (S.n+S.R) S.va))else none:=by
 unfold Zs;rw[zcI];by_cases c1:100<=k/\k<100+S.R
 .rw[Qc c1,Qc ⟨by omega,by omega⟩,show b+k-(b+100)=k-100 by omega]
 .rw[Qb c1,Qb (fun h=>c1 ⟨by omega,by omega⟩),ziS,ziS,zue,ziS]
  show(if b+k=b+1 then _ else if b+k=b+2 then _ else if b+k=b+3/\S.R≠0 then _ else if b+k=b+4 then _ else if b+k=b then _ else if b+k=b+5 then _ else none)=_;have Ji:∀ {α:Type} {f:α->List T} {n:Nat} {g:Nat->α} {o:Option (List C)},o=none->ZK f (fnG n g) o=ZK f (fnG n g) none:=fun {α f n g o} h=>by rw[h]
  by_cases k1:k=1
  .subst k1
   rw[Qc rfl,Qc rfl];refine Ji ?_;rw[Qb (by omega),Qb (fun h=>by omega),Qb (by omega),zfZ,Qb (by omega),zfZ,Qb (by omega)];rfl
  .rw[Qb (by omega),Qb k1]
   by_cases k2:k=2
   .subst k2
    rw[Qc rfl,Qc rfl];refine Ji ?_;rw[Qb (fun h=>by omega),Qb (by omega),zfZ,Qb (by omega),zfZ,Qb (by omega)];rfl
   .rw[Qb (by omega),Qb k2]
    by_cases k3:k=3
    .subst k3
     rw[Qc rfl];by_cases hR:S.R=0
     .rw[Qb (fun h=>h.2 hR),Qc hR,Qb (by omega),Qb (by omega),Qb (by omega)]
     .rw[Qc ⟨rfl,hR⟩,Qb hR]
    .rw[Qb (fun h=>by omega),Qb k3]
     by_cases k4:k=4
     .subst k4
      rw[Qc rfl,Qc rfl];refine Ji ?_;rw[zfZ,Qb (by omega),zfZ,Qb (by omega)];rfl
     .rw[Qb (by omega),Qb k4]
      by_cases k0:k=0
      .subst k0
       rw[Qc (by omega),Qc rfl]
      .rw[Qb (by omega),Qb k0]
       by_cases k5:k=5
       .subst k5;rw[Qc rfl,Qc rfl]
       .rw[Qb (by omega),Qb k5]
theorem zkC{α:Type}{f:α->List T}{xs:List α}{θ:Nat->Nat}:(Q5 f xs).map (thC θ)=Q5 f xs:=by
 unfold Q5;rw[wah];rfl
theorem zlA{α:Type}{b sz:Nat}{xs:List α}{θ:Nat->Nat}:thC θ (QX b sz xs)=QX (thI θ b) sz xs:=by cases xs<;>rfl
theorem zx7{b n:Nat}{θ:Nat->Nat}:thC θ (cvC b n)=cvC (thI θ b) n:=by unfold cvC;split<;>rfl
theorem zev{d k:Nat}:thI (fun k=>d+k) (PIN+k)=d+k:=by show d+(PIN+k-PIN)=d+k;omega
theorem zlV(d:Nat)(S:SX)(k:Nat){cs:List C}(h:xS S (PIN+k)=some cs):Q9 (Zs d S) (d+k)=some (cs.map (thC fun k=>d+k)):=by
 rw[zbD,ZT]at h;rw[ZT];have Vw:∀ {α:Type} {f:α->List T} {xs:List α},ZK f xs none=some cs->ZK f xs none=some (cs.map (thC fun k=>d+k)):=fun {α f xs} h=>by
  cases xs with
  |nil=>cases h
  |cons x xs =>
   have h:some (Q5 f (x::xs))=some cs:=h;cases h
   rw[zkC];rfl
 split
 .rename_i c;rw[Qc c]at h;cases h;rw[zkC]
 .rename_i c;rw[Qb c]at h
  split
  .rename_i c;rw[Qc c]at h;exact Vw h
  .rename_i c;rw[Qb c]at h
   split
   .rename_i c;rw[Qc c]at h;exact Vw h
   .rename_i c;rw[Qb c]at h
    split
    .rename_i c;rw[Qc c]at h
     split
     .rename_i c;rw[Qc c]at h;cases h
     .rename_i c;rw[Qb c]at h;cases h
      rw[zld fun i hi=>by rw[zev,show PIN+100+i=PIN+(100+i) by omega,zev];omega,zev]
    .rename_i c;rw[Qb c]at h
     split
     .rename_i c;rw[Qc c]at h;exact Vw h
     .rename_i c;rw[Qb c]at h
      split
      .rename_i c;rw[Qc c]at h;cases h
       show some (zb3 d S)=some [thC _ (QX (PIN+1) 1 (fnG S.R S.rw)),thC _ (QX (PIN+2) 1 (fnG S.n S.cl)),thC _ (cvC (PIN+3) S.R),.t (.lit (.int .i64 (S.n:Int))),thC _ (QX (PIN+4) 3 (fnG S.R S.mo)),.vec (thI (fun k=>d+k) (PIN+5)) 3 0 (S.n+S.R)];rw[zlA,zlA,zx7,zlA,zev,zev,zev,zev,zev];rfl
      .rename_i c;rw[Qb c]at h
       split
       .rename_i c;rw[Qc c]at h;cases h;rw[zkC]
       .rename_i c;rw[Qb c]at h;cases h
theorem zeL{S:SX}{b:Nat}(h:xS S b≠none):PIN<=b/\b<PIN+100+S.R:=by
 rw[zbD,Ne,zbi]at h;exact zet (wcT.1 h)
def AtS(H:QE)(b:Nat)(S:SX):Prop:=∀ k,k<100+S.R->∀ cs,Q9 (Zs b S) (b+k)=some cs->H (b+k)=some cs
theorem zhC{F:FuncId}{ys args:List AV}{S:SX}{H:QE}{r:AV}(d:Nat)(h:Ze prog F args (xS S) r (xS S))(Xc:ys=args.map (thA (fun k=>d+k)))(YD:∀ x∈args,inA (xS S) x)
  (hH:AtS H d S):RdC prog F ys H (thA (fun k=>d+k) r):=by
 subst Xc;have hk:∀ b,PIN<=b->PIN+(b-PIN)=b:=fun b hb=>by omega
 refine zeE (fun k=>d+k) h (zeu S) (fun b b' hb hb' e=>?_) (zd0 S) YD fun b cs hb=>?_
 .have h1:=zeL hb
  have h2:=zeL hb';have e:d+(b-PIN)=d+(b'-PIN):=e;omega
 .have h1:=zeL (b:=b) (S:=S) (by rw[hb];simp)
  exact hH (b-PIN) (by omega) _ (zlV d S _ (by rw[hk b h1.1];exact hb))
theorem zou{m:Nat}{F:FuncId}{ys args:List AV}{S S':SX}{σ:St}{K:AV->St->Prop}{r:AV}(d:Nat)(hm:m=1\/m=2)(h:Ze prog F args (xS S) r (xS S'))(hn:S'.n=S.n)(hR:S'.R=S.R)(Xc:ys=args.map (thA (fun k=>d+k)))(YD:∀ x∈args,inA (xS S) x)
  (hH:AtS σ.H d S) (hK:K (thA (fun k=>d+k) r) (σ.withH (fun t=>(Q9 (Zs d S') t).or (σ.H t)))):ZM prog m F ys σ K:=by
 have hk:∀ b,PIN<=b->PIN+(b-PIN)=b:=fun b hb=>by omega
 refine zjb (fun k=>d+k) hm h Xc (zeu S) (zfj hn hR) (fun b b' hb hb' e=>?_) (zd0 S) YD (fun b cs hb=>?_) (fun b cs hb=>?_) (fun b hb=>?_) hK
 .have h1:=zeL hb
  have h2:=zeL hb';have e:d+(b-PIN)=d+(b'-PIN):=e;omega
 .have h1:=zeL (b:=b) (S:=S) (by rw[hb];simp)
  exact hH (b-PIN) (by omega) _ (zlV d S _ (by rw[hk b h1.1];exact hb))
 .have h1:=zeL (b:=b) (S:=S') (by rw[hb];simp)
  show(Q9 (Zs d S') (d+(b-PIN))).or _=_;rw[zlV d S' _ (by rw[hk b h1.1];exact hb)];rfl
 .show(Q9 (Zs d S') b).or (σ.H b)=σ.H b
  cases hx:Q9 (Zs d S') b with
  |none=>rfl
  |some cs =>
   exfalso;have hm:b∈(Zs d S').map (·.1):=waF fun X8=>by rw[zbg X8]at hx;cases hx
   have Fz:=zet hm;have e:d+(b-d)=b:=by omega
   refine hb (PIN+(b-d)) ?_ ?_
   .refine fun KP=>?_
    have YA:=(zfj hn hR _).2 KP;rw[zbD,ZT]at YA;rw[<-e,ZT]at hx;split at hx
    .rename_i c1;rw[Qc c1]at YA;cases YA
    .rename_i c1;rw[Qb c1]at YA
     split at hx
     .rename_i c2;rw[Qc c2]at YA;rw[YA]at hx;cases hx
     .rename_i c2;rw[Qb c2]at YA
      split at hx
      .rename_i c3;rw[Qc c3]at YA;rw[YA]at hx;cases hx
      .rename_i c3;rw[Qb c3]at YA
       split at hx
       .rename_i c4;rw[Qc c4]at YA
        split at hx
        .cases hx
        .rename_i c5;rw[Qb c5]at YA;cases YA
       .rename_i c4;rw[Qb c4]at YA
        split at hx
        .rename_i c5;rw[Qc c5]at YA;rw[YA]at hx;cases hx
        .rename_i c5;rw[Qb c5]at YA
         split at hx
         .rename_i c6;rw[Qc c6]at YA;cases YA
         .rename_i c6;rw[Qb c6]at YA
          split at hx
          .rename_i c7;rw[Qc c7]at YA;cases YA
          .cases hx
   .show d+(PIN+(b-d)-PIN)=b;omega
section
variable {b t i:Nat} {S:SX} {e:List (Nat×List C)} {D:List Nat}
theorem ziE:∀ (l l':List (Nat×List C)) (t:Nat),Q9 (l++l') t=(Q9 l t).or (Q9 l' t)
 |[],_,_=>rfl
 |(k,v)::l,l',t=>by
  show(if t=k then some v else Q9 (l++l') t)=(if t=k then some v else Q9 l t).or _;by_cases e:t=k
  .rw[Qc e,Qc e];rfl
  .rw[Qb e,Qb e];exact ziE l l' t
theorem zew(k:Nat):Q9 (Z6 b S e) (b+k)=(Q9 (Zs b S) (b+k)).or (Q9 e (b+k)):=ziE _ _ _
@[go_sem] theorem slvK0:Q9 (Z6 b S e) b=some (zb3 b S):=by
 have:=zew (b:=b) (S:=S) (e:=e) 0;rw[ZT]at this;rw[Qb (by omega),Qb (by omega),Qb (by omega),Qb (by omega),Qb (by omega),Qc rfl]at this;exact this
@[go_sem] theorem slvK1:Q9 (Z6 b S e) (b+1)=if S.R=0 then Q9 e (b+1)else some (Q5 cI1 (fnG S.R S.rw)):=by
 rw[zew,ZT,Qb (by omega),Qc rfl];split
 .rename_i h;rw[h];rfl
 .rename_i h
  have:=zbA (g:=S.rw) h;cases e:fnG S.R S.rw with
  |nil=>exact(this e).elim
  |cons _ _=>rfl
@[go_sem] theorem slvK2:Q9 (Z6 b S e) (b+2)=if S.n=0 then Q9 e (b+2)else some (Q5 cI1 (fnG S.n S.cl)):=by
 rw[zew,ZT,Qb (by omega),Qb (by omega),Qc rfl];split
 .rename_i h;rw[h];rfl
 .rename_i h
  have:=zbA (g:=S.cl) h;cases e:fnG S.n S.cl with
  |nil=>exact(this e).elim
  |cons _ _=>rfl
@[go_sem] theorem slvK3:Q9 (Z6 b S e) (b+3)=if S.R=0 then Q9 e (b+3)else some (rowsC (b+100) 3 S.n S.R):=by
 rw[zew,ZT,Qb (by omega),Qb (by omega),Qb (by omega),Qc rfl];split<;>rfl
@[go_sem] theorem slvK4:Q9 (Z6 b S e) (b+4)=if S.R=0 then Q9 e (b+4)else some (Q5 cR (fnG S.R S.mo)):=by
 rw[zew,ZT,Qb (by omega),Qb (by omega),Qb (by omega),Qb (by omega),Qc rfl];split
 .rename_i h;rw[h];rfl
 .rename_i h
  have:=zbA (g:=S.mo) h;cases e:fnG S.R S.mo with
  |nil=>exact(this e).elim
  |cons _ _=>rfl
@[go_sem] theorem slvK5:Q9 (Z6 b S e) (b+5)=some (Q5 cR (fnG (S.n+S.R) S.va)):=by
 rw[zew,ZT,Qb (by omega),Qb (by omega),Qb (by omega),Qb (by omega),Qb (by omega),Qb (by omega),Qc rfl];rfl
@[go_sem] theorem zjV:Q9 (Z6 b S e) (b+100+i)=if i<S.R then some (Q5 cR (fnG S.n (S.a i)))else Q9 e (b+100+i):=by
 rw[show b+100+i=b+(100+i) by omega,zew,ZT];by_cases h:i<S.R
 .rw[Qc ⟨by omega,by omega⟩,Qc h,show 100+i-100=i by omega];rfl
 .rw[Qb (fun h2=>h (by omega)),Qb (by omega),Qb (by omega),Qb (by omega),Qb (by omega),Qb (by omega),Qb (by omega),Qb h];rfl
theorem QL(h:t<b):Q9 (Z6 b S e) t=Q9 e t:=by
 unfold Z6;rw[ziE,zbg fun hm=>by have:=zet hm;omega];rfl
theorem zuQ{σ:St}:ZB σ (Z6 b S e)=(AtS σ.H b S/\ZB σ e):=by
 have zkb:∀ (l l':List (Nat×List C)),ZB σ (l++l')=(ZB σ l/\ZB σ l'):=fun l l'=>by
  induction l with
  |nil=>simp[ZB]
  |cons x l ih=>obtain⟨k,v⟩:=x;show(σ.H k=some v/\ZB σ (l++l'))=((σ.H k=some v/\ZB σ l)/\ZB σ l');rw[ih,and_assoc]
 unfold Z6;rw[zkb];congr 1;refine propext ⟨fun h k _ cs hk=>(h.look _ _ hk).1,fun h=>?_⟩;have h2:∀ k cs,Q9 (Zs b S) k=some cs->σ.H k=some cs:=fun k cs hk=>by
  have hm:k∈(Zs b S).map (·.1):=waF fun hn=>by rw[zbg hn]at hk;cases hk
  have:=zet hm;have e:b+(k-b)=k:=by omega
  rw[<-e];exact h (k-b) (by omega) cs (by rw[e];exact hk)
 have Vw:∀ {α:Type} {f:α->List T} {n c:Nat} {g:Nat->α},(ZK f (fnG n g) none=Q9 (Zs b S) c)->(fnG n g=[]\/σ.H c=some (Q5 f (fnG n g))):=fun {α f n c g} hh=>by
  by_cases hn:n=0
  .left;rw[hn];rfl
  .right
   refine h2 _ _ ?_;rw[<-hh];have:=zbA (g:=g) hn;cases e:fnG n g with
   |nil=>exact(this e).elim
   |cons _ _=>rfl
 have e1:ZK cI1 (fnG S.R S.rw) none=Q9 (Zs b S) (b+1):=by rw[ZT,Qb (by omega),Qc rfl]
 have e2:ZK cI1 (fnG S.n S.cl) none=Q9 (Zs b S) (b+2):=by rw[ZT,Qb (by omega),Qb (by omega),Qc rfl]
 have e3:Q9 (Zs b S) (b+3)=(if S.R=0 then none else some (rowsC (b+100) 3 S.n S.R)):=by rw[ZT,Qb (by omega),Qb (by omega),Qb (by omega),Qc rfl]
 have e4:ZK cR (fnG S.R S.mo) none=Q9 (Zs b S) (b+4):=by rw[ZT,Qb (by omega),Qb (by omega),Qb (by omega),Qb (by omega),Qc rfl]
 have e0:some (zb3 b S)=Q9 (Zs b S) b:=by
  have:=ZT b S 0;rw[Qb (by omega),Qb (by omega),Qb (by omega),Qb (by omega),Qb (by omega),Qc rfl]at this;exact this.symm
 have e5:some (Q5 cR (fnG (S.n+S.R) S.va))=Q9 (Zs b S) (b+5):=by rw[ZT,Qb (by omega),Qb (by omega),Qb (by omega),Qb (by omega),Qb (by omega),Qb (by omega),Qc rfl]
 have ef:∀ i,i<S.R->Q9 (Zs b S) (b+100+i)=some (Q5 cR (fnG S.n (S.a i))):=fun i hi=>by
  rw[show b+100+i=b+(100+i) by omega,ZT,Qc ⟨by omega,by omega⟩,show 100+i-100=i by omega]
 unfold Zs;rw[zoS,zja,zja,zvQ,zja];refine⟨fun i hi=>h2 _ _ (ef i hi),Vw e1,Vw e2,?_,Vw e4,h2 _ _ e0.symm,h2 _ _ e5.symm,trivial⟩;by_cases hR:S.R=0
 .exact .inl hR
 .right;rw[Qb hR]at e3;exact h2 _ _ e3
attribute [go_sem] zuQ
@[go_sem] theorem zi0:AtS (Q9 (Z6 b S e)) b S=True:=Qh fun k _ cs h=>by rw[zew,h];rfl
theorem Yd{H:QE}{x:Option (List C)}(h:t<b):AtS (upd H t x) b S=AtS H b S:=by
 refine propext ⟨fun h2 k hk cs hc=>?_,fun h2 k hk cs hc=>?_⟩
 .have:=h2 k hk cs hc
  rw[zaG,Qb (by omega)]at this;exact this
 .rw[zaG,Qb (by omega)];exact h2 k hk cs hc
theorem AtS.va{H:QE}(h:AtS H b S)(va:Nat->Rat):AtS (upd H (b+5) (some (Q5 cR (fnG (S.n+S.R) va)))) b { S with va:=va }:=fun k hk cs hc=>by
 have h0:=h k hk cs;rw[ZT]at hc h0;rw[zaG];by_cases e:k=5
 .subst e
  rw[Qc rfl];rw[Qb (by omega),Qb (by omega),Qb (by omega),Qb (by omega),Qb (by omega),Qb (by omega),Qc rfl]at hc;exact hc
 .rw[Qb (by omega)]
  refine h0 ?_;rw[<-hc,Qb e,Qb e];rfl
theorem AtS.rw{H:QE}(h:AtS H b S)(hR:S.R≠0)(rw':Nat->Nat):AtS (upd H (b+1) (some (Q5 cI1 (fnG S.R rw')))) b { S with rw:=rw' }:=fun k hk cs hc=>by
 have h0:=h k hk cs;rw[ZT]at hc h0;rw[zaG];by_cases e:k=1
 .subst e
  rw[Qc rfl];rw[Qb (by omega),Qc rfl]at hc;rw[<-hc];have:=zbA (g:=rw') hR;show some (Q5 cI1 (fnG S.R rw'))=ZK cI1 (fnG S.R rw') none;cases e:fnG S.R rw' with
  |nil=>exact(this e).elim
  |cons _ _=>rfl
 .rw[Qb (by omega)]
  refine h0 ?_;rw[Qb e]at hc ⊢;rw[<-hc];have hs:some (zb3 b S)=some (zb3 b { S with rw:=rw' }):=by
   unfold zb3;have:QX (b+1) 1 (fnG S.R S.rw)=QX (b+1) 1 (fnG S.R rw'):=by
    have h1:=zbA (g:=rw') hR;have h2:=zbA (g:=S.rw) hR;have l1:(fnG S.R rw').length=S.R:=Zj;have l2:(fnG S.R S.rw).length=S.R:=Zj;cases e1:fnG S.R rw' with
    |nil=>exact(h1 e1).elim
    |cons x xs =>
     cases e2:fnG S.R S.rw with
     |nil=>exact(h2 e2).elim
     |cons y ys =>
      rw[e1]at l1;rw[e2]at l2;show C.vec _ _ _ (y::ys).length=C.vec _ _ _ (x::xs).length;rw[l1,l2]
   show some [_,_,_,_,_,_]=some [_,_,_,_,_,_];rw[this]
  rw[hs]
theorem AtS.cl{H:QE}(h:AtS H b S)(hn:S.n≠0)(cl':Nat->Nat):AtS (upd H (b+2) (some (Q5 cI1 (fnG S.n cl')))) b { S with cl:=cl' }:=fun k hk cs hc=>by
 have h0:=h k hk cs;rw[ZT]at hc h0;rw[zaG];by_cases e:k=2
 .subst e
  rw[Qc rfl];rw[Qb (by omega),Qb (by omega),Qc rfl]at hc;rw[<-hc];have:=zbA (g:=cl') hn;show some (Q5 cI1 (fnG S.n cl'))=ZK cI1 (fnG S.n cl') none;cases e:fnG S.n cl' with
  |nil=>exact(this e).elim
  |cons _ _=>rfl
 .rw[Qb (by omega)]
  refine h0 ?_;rw[Qb e]at hc ⊢;rw[<-hc];have hs:some (zb3 b S)=some (zb3 b { S with cl:=cl' }):=by
   unfold zb3;have:QX (b+2) 1 (fnG S.n S.cl)=QX (b+2) 1 (fnG S.n cl'):=by
    have h1:=zbA (g:=cl') hn;have h2:=zbA (g:=S.cl) hn;have l1:(fnG S.n cl').length=S.n:=Zj;have l2:(fnG S.n S.cl).length=S.n:=Zj;cases e1:fnG S.n cl' with
    |nil=>exact(h1 e1).elim
    |cons x xs =>
     cases e2:fnG S.n S.cl with
     |nil=>exact(h2 e2).elim
     |cons y ys =>
      rw[e1]at l1;rw[e2]at l2;show C.vec _ _ _ (y::ys).length=C.vec _ _ _ (x::xs).length;rw[l1,l2]
   show some [_,_,_,_,_,_]=some [_,_,_,_,_,_];rw[this]
  rw[hs]
theorem AtS.row{H:QE}(h:AtS H b S){r:Nat}(hr:r<S.R)(g:Nat->Rat):AtS (upd H (b+100+r) (some (Q5 cR (fnG S.n g)))) b { S with a:=fun i=>if i=r then g else S.a i }:=fun k hk cs hc=>by
 have h0:=h k hk cs;rw[ZT]at hc h0;rw[zaG];by_cases e:k=100+r
 .subst e
  rw[Qc (by omega)];rw[Qc ⟨by omega,by show 100+r<100+S.R;omega⟩]at hc;rw[<-hc];show some (Q5 cR (fnG S.n g))=some (Q5 cR (fnG S.n (if 100+r-100=r then g else S.a (100+r-100))));rw[Qc (by omega)]
 .rw[Qb (by omega)]
  refine h0 ?_;rw[<-hc];by_cases c1:100<=k/\k<100+S.R
  .rw[Qc c1,Qc c1]
   show _=some (Q5 cR (fnG S.n (if k-100=r then g else S.a (k-100))));rw[Qb (by omega)]
  .rw[Qb c1,Qb c1];rfl
def zbs(b:Nat)(S:SX)(D:List Nat):List Nat:=(Zs b S).map (·.1)++D
@[go_sem] theorem zCX:(Z6 b S e).map (fun p=>p.1)=zbs b S (e.map (fun p=>p.1)):=by unfold Z6 zbs;rw[waK]
theorem zsO{D D':List Nat}(h:∀ x∈D,x∈D'){c:C}(hc:ZA D c=true):ZA D' c=true:=by
 have key:∀ b,D.contains b=true->D'.contains b=true:=fun b hb=>by
  rw[waH]at hb ⊢;exact h b hb
 cases c with
 |t x=>rfl
 |ptr b o=>exact key b hc
 |vec b s o n=>exact key b hc
 |fn f caps=>exact wac.2 fun p hp=>key _ (wac.1 hc p hp)
theorem znb{D D':List Nat}(h:∀ x∈D,x∈D'):∀ {l:List (Nat×List C)},QT D l=true->QT D' l=true
 |[],_=>rfl
 |(k,v)::l,hl=>by
  have hl:(v.all (ZA D)&&QT D l)=true:=hl;rw[waj,wac]at hl;show(v.all (ZA D')&&QT D' l)=true;rw[waj,wac];exact⟨fun c hc=>zsO h (hl.1 c hc),znb h hl.2⟩
@[go_sem] theorem zBL:QT (zbs b S D) (Z6 b S e)=QT (zbs b S D) e:=by
 unfold Z6 zbs;rw[zgV,znb (D:=(Zs b S).map (·.1)) (fun x hx=>wbY _ hx) (zk0 b S),wbD]
theorem zlB{k:Nat}(h:Q9 (Zs b S) (b+k)≠none):(zbs b S D).contains (b+k)=true:=by
 rw[waH];refine wbY D ?_;exact waF fun hn=>h (zbg hn)
@[go_sem] theorem zDH:(zbs b S D).contains b=true:=by
 have:=zlB (b:=b) (S:=S) (D:=D) (k:=0) (by
  rw[ZT,Qb (by omega),Qb (by omega),Qb (by omega),Qb (by omega),Qb (by omega),Qc rfl];simp)
 exact this
theorem zwy(h:i<S.R):(zbs b S D).contains (b+100+i)=true:=by
 rw[show b+100+i=b+(100+i) by omega];exact zlB (by rw[ZT,Qc ⟨by omega,by omega⟩];simp)
theorem zlC{c n:Nat}(h:(Q9 (Zs b S) (b+c)≠none)↔n≠0):(zbs b S D).contains (b+c)=(!(n==0)||D.contains (b+c)):=by
 by_cases hn:n=0
 .have e:(zbs b S D).contains (b+c)=((Zs b S).map (·.1)++D).contains (b+c):=rfl
  rw[e,hn];show _=D.contains (b+c);rw[waP,waH,waH,wao];refine⟨fun h2=>h2.elim (fun hm=>?_) id,.inr⟩;obtain⟨cs,YN⟩:=ziA hm;exact(h.1 (by rw[YN];simp) hn).elim
 .rw[zlB (h.2 hn),show(n==0)=false from beq_false_of_ne hn];rfl
theorem zi1{α:Type}{f:α->List T}{n:Nat}{g:Nat->α}:ZK f (fnG n g) none≠none↔n≠0:=by
 constructor
 .intro h e;rw[e]at h;exact h rfl
 .intro h
  cases e:fnG n g with
  |nil=>exact(zbA h e).elim
  |cons _ _=>simp[ZK]
@[go_sem] theorem zDI:(zbs b S D).contains (b+1)=(!(S.R==0)||D.contains (b+1)):=zlC (by
 rw[ZT,Qb (by omega),Qc rfl];exact zi1)
@[go_sem] theorem zDJ:(zbs b S D).contains (b+2)=(!(S.n==0)||D.contains (b+2)):=zlC (by
 rw[ZT,Qb (by omega),Qb (by omega),Qc rfl];exact zi1)
@[go_sem] theorem zDK:(zbs b S D).contains (b+3)=(!(S.R==0)||D.contains (b+3)):=zlC (by
 rw[ZT,Qb (by omega),Qb (by omega),Qb (by omega),Qc rfl];by_cases h:S.R=0
 .simp[h]
 .simp[h])
attribute [go_sem] zm6
theorem zaN{t:Nat}(h:t<b):(zbs b S D).contains t=D.contains t:=by
 have e:(zbs b S D).contains t=((Zs b S).map (·.1)++D).contains t:=rfl;rw[e,waP,waH,waH,wao];exact⟨fun h2=>h2.elim (fun hm=>by have:=zet hm;omega) id,.inr⟩
attribute [go_sem] zb3 false_and and_false wen Nat.add_right_inj wdq
theorem zx8{H:QE}(h:AtS H PIN S)(hn:∀ t,PIN<=t->Q9 (Zs PIN S) t=none->H t=none):∀ t,PIN<=t->H t=xS S t:=fun t ht=>by
 rw[zbD];cases hx:Q9 (Zs PIN S) t with
 |none=>exact hn t ht hx
 |some cs =>
  have hm:t∈(Zs PIN S).map (·.1):=waF fun X8=>by rw[zbg X8]at hx;cases hx
  have:=zet hm;have e:PIN+(t-PIN)=t:=by omega
  have h2:=h (t-PIN) (by omega) cs;rw[e]at h2;exact h2 hx
end
theorem zpA{v:Rat}:0<v↔0<v.num:=by
 have h1:0<=(-v).num↔0<=-v:=wdW;rw[Rat.neg_num]at h1;have h2:0<v↔¬0<=-v:=by
  constructor
  .intro h;grind
  .intro h;grind
 rw[h2,<-h1];omega
theorem zdj{α:Type}{b sz n:Nat}{g:Nat->α}(h:n≠0):QX b sz (fnG n g) = .vec b sz 0 n:=by
 have hne:=zbA (g:=g) h;have e:QX b sz (fnG n g) = .vec b sz 0 (fnG n g).length:=by
  cases e:fnG n g with
  |nil=>exact(hne e).elim
  |cons x xs=>rfl
 rw[e,Zj]
theorem zuR{α:Type}{f:α->List T}{n:Nat}{g:Nat->α}{o:Option (List C)}(h:n≠0):ZK f (fnG n g) o=some (Q5 f (fnG n g)):=by
 have hne:=zbA (g:=g) h;cases e:fnG n g with
 |nil=>exact(hne e).elim
 |cons x xs=>rfl
theorem zx9(S:SX)(v:Nat){K:Nat}(hK:K<=1900000000)(hd:S.n+S.R<1000000)(hv:v<S.n+S.R)(Kg:∀ i,i<S.R->lQ (S.mo i)<=K)(OV:∀ v,v<S.n+S.R->lQ (S.va v)<=K) :
  Ze prog 103 [.one (.ptr PIN 0),litI .i64 v] (xS S) (.agg ((cR (S.ov v)).map .t)) (xS S):=by
 refine zaq QB call103 func103 rfl ntmps103 results103 (by simp) (by decide) ?_ ?_ ?_ ?_ ?_
 .exact zeu S
 .exact fun b=>wbq
 .exact zd0 S
 .exact fun c hc=>by obtain⟨t,_,rfl⟩:=Qp.1 hc;trivial
 .have z:=zmc
  obtain⟨m1,XK⟩:∃ c:Int,c = -1:=⟨_,rfl⟩
  have om:Q7 prog 106 [tI .i64 (-1)] (eI m1):=by rw[XK];exact zbP (-1) (by decide) (by decide)
  have l1:lN m1<=1:=ZQ (by omega);have o1:=zgr m1 (by omega);have lm:=zfo m1;have pl:=zgE 0 (m1:Rat) (by have:=zjc;omega) (by omega);have em:(0:Rat)+(m1:Rat) = -1:=by rw[XK,Rat.zero_add];rfl
  rw[em]at pl;by_cases c:v<S.n
  .have c':((v:Int)<(S.n:Int))=True:=Qh (by omega)
   have e:S.ov v = -1:=Qc c;rw[e];simp only[go_sem,PIN,xS,c',QL];((repeat(refine Q3 0 rfl ?_;simp only[go_sem,PIN,QL]));refine Q2 (z) rfl ?_;simp only[go_sem];(repeat(refine Q3 0 rfl ?_;simp only[go_sem,PIN,QL]));refine Q2 (om) rfl ?_;simp only[go_sem];(repeat(refine Q3 0 rfl ?_;simp only[go_sem,PIN,QL]));refine Q2 (o1) rfl ?_;simp only[go_sem];(repeat(refine Q3 0 rfl ?_;simp only[go_sem,PIN,QL]));refine Q2 (pl) rfl ?_;simp only[go_sem,QL];(repeat(refine Q3 0 rfl ?_;simp only[go_sem,PIN,QL])));exact zeJ (.inr rfl) (by simp only[go_sem]<;>decide) (by simp only[go_sem]<;>rfl) (za9 (by decide) (za9 (by decide) fun _ _=>rfl))
  .have c':((v:Int)<(S.n:Int))=False:=Ql (by omega)
   have hR:S.R≠0:=by omega
   have e:S.ov v=S.va v-S.mo (v-S.n):=Qb c;obtain⟨j,hj⟩:∃ j,j=v-S.n:=⟨_,rfl⟩
   rw[<-hj]at e;have Nf:IntKind.i64.wrap ((v:Int)-(S.n:Int))=(j:Int):=by rw[Q4 (by omega) (by omega)];omega
   have h1:=OV v hv;have h2:=Kg j (by omega);have om:=zhw (S.mo j) (by omega);have pl:=zgE (S.va v) (-(S.mo j)) (by omega) (by rw[zfm];omega);rw[<-Rat.sub_eq_add_neg,<-e]at pl;have a1:=Z4 (f:=cR) (sz:=3) (g:=S.va) (n:=S.n+S.R) (i:=v) zat hv;have a2:=Z4 (f:=cR) (sz:=3) (g:=S.mo) (n:=S.R) (i:=j) zat (by omega);have g1:=zdj (b:=1000004) (sz:=3) (g:=S.mo) hR;have g2:=fun o=>zuR (f:=cR) (g:=S.mo) (o:=o) hR
   have b1:((j:Int)<(S.R:Int))=True:=Qh (by omega);have b2:((v:Int)<((S.n+S.R:Nat):Int))=True:=Qh (by omega);have d1:(Q5 cR (fnG (S.n+S.R) S.va)).length=(S.n+S.R)*3:=zbB zat;have d2:(Q5 cR (fnG S.R S.mo)).length=S.R*3:=zbB zat;simp only[go_sem,PIN,xS,c',QL];refine Q3 0 rfl ?_;simp only[go_sem,hR,Nf,a1,a2,g1,b1,b2]
   (repeat(refine Qg (by omega) ?_))
   ((repeat(refine Q3 0 rfl ?_;simp only[go_sem]));refine Q2 (om) rfl ?_;simp only[go_sem];(repeat(refine Q3 0 rfl ?_;simp only[go_sem]));refine Q2 (pl) rfl ?_;simp only[go_sem];(repeat(refine Q3 0 rfl ?_;simp only[go_sem])));exact zeJ (.inr rfl) (by simp only[go_sem]<;>decide) (by simp only[go_sem]<;>rfl) (za9 (by decide) (za9 (by decide) fun _ _=>rfl))
structure BdX(K:Nat)(S:SX):Prop where
 dim:S.n+S.R<90000
 mo:∀ i,i<S.R->lQ (S.mo i)<=K
 va:∀ v,v<S.n+S.R->lQ (S.va v)<=K
 a:∀ i j,i<S.R->j<S.n->lQ (S.a i j)<=K
 rw:∀ i,i<S.R->S.rw i<S.n+S.R
 cl:∀ c,c<S.n->S.cl c<S.n+S.R
theorem BdX.ov{K:Nat}{S:SX}(h:BdX K S){v:Nat}(hv:v<S.n+S.R):lQ (S.ov v)<=2*K+1:=by
 unfold SX.ov;have h1:=zqg;split
 .rw[zfm];omega
 .have h2:=h.va v hv
  have h3:=h.mo (v-S.n) (by omega);have:=zxx (S.va v) (S.mo (v-S.n));omega
theorem zlE(S:SX)(v:Nat){K:Nat}(hK:K<=1900000000)(hB:BdX K S)(hv:v<S.n+S.R)(d:Nat){H:QE}(hH:AtS H d S) :
  RdC prog 103 [.one (.ptr d 0),litI .i64 v] H (.agg ((cR (S.ov v)).map .t)) :=
 zhC d (zx9 S v hK (by have:=hB.dim;omega) hv hB.mo hB.va) rfl (Qs.2 ⟨zfI,Qs.2 ⟨trivial,fun x hx=>by cases hx⟩⟩) hH
def zeb:Option Nat->Int
 |none=>-1
 |some r=>r
@[go_sem] theorem zBM{p:Nat->Bool}{k:Nat->Nat}:ZJ p k 0=none:=rfl
@[go_sem] theorem zBN:zeb none = -1:=rfl
@[go_sem] theorem zBO{r:Nat}:zeb (some r)=(r:Int):=rfl
theorem zpB{p:Nat->Bool}{k:Nat->Nat}{n r:Nat}(h:ZJ p k n=some r):r<n:=(ziR h).1
theorem zuS(S:SX){K:Nat}(hK:K<=900000000)(hB:BdX K S) :
  Ze prog 57 [.one (.ptr PIN 0)] (xS S) (litI .i64 (zeb S.broken)) (xS S):=by
 have Xk:=hB.dim;refine zaq QB call57 func57 rfl ntmps57 results57 (by simp) (by decide) ?_ ?_ ?_ ?_ ?_
 .exact zeu S
 .exact fun b=>wbq
 .exact zd0 S
 .trivial
 .simp only[go_sem,PIN,xS]
  refine QJ (fun i:Nat=>stL 49 [(0,.one (.ptr 1000000 0)),(3,litI .i64 (zeb (ZJ S.bad S.rw i))),(10,.one (QX 1000001 1 (fnG S.R S.rw))),(11,litI .i64 S.R),(12,litI .i64 i)] (Z6 1000000 S []))
   (fun i=>i<=S.R) (fun i=>S.R-i) 0 ?_ (Qk _) ?_
  ·(refine Q6 rfl ?_ ?_ ?_ ?_<;>(try simp only[go_sem])<;>(try simp))
  .intro i hi
   simp only[go_sem];refine QI (fun Y1=>?_) (fun YI=>?_)
   .have Yz:i<S.R:=by omega
    have hR:S.R≠0:=by omega
    have Vr:(S.R==0)=false:=beq_false_of_ne hR;have a1:=Z4 (f:=cI1) (sz:=1) (g:=S.rw) (n:=S.R) (i:=i) Ya Yz;rw[wai]at a1;have g1:=zdj (b:=1000001) (sz:=1) (g:=S.rw) hR;have d1:(Q5 cI1 (fnG S.R S.rw)).length=S.R:=by rw[zbB Ya,wai]
    have hv:=hB.rw i Yz;have Y0:ZJ S.bad S.rw (i+1)=match ZJ S.bad S.rw i with
      |none=>if S.bad i then some i else none
      |some o=>if S.bad i&&decide (S.rw i<S.rw o)then some i else some o:=rfl
    have KD:∀ r,ZJ S.bad S.rw i=some r->r<i:=fun r h=>zpB h
    have KC:=hB.ov hv;have YK:S.bad i=(decide (S.n<=S.rw i)&&decide (0<S.ov (S.rw i))):=rfl;have Dl:S.bad i=false->ZJ S.bad S.rw (i+1)=ZJ S.bad S.rw i:=fun h=>by
     rw[Y0,h];cases ZJ S.bad S.rw i<;>rfl
    generalize ho:ZJ S.bad S.rw i=o at *
    have rd:=zlE S (S.rw i) (by omega) hB hv 1000000 (H:=Q9 (Z6 1000000 S [])) (by rw[zi0];trivial);have sg:=ze9 (S.ov (S.rw i)) (by omega);simp only[go_sem,g1,a1,Y1,hR]
    (repeat(refine Qg (by omega) ?_))
    by_cases c1:S.n<=S.rw i
    .have c1':((S.n:Int)<=(S.rw i:Int))=True:=Qh (by omega)
     simp only[go_sem,c1'];refine zbL (.inr rfl) rd ?_;simp only[go_sem];refine Q2 sg rfl ?_;have Rf:0<S.ov (S.rw i)↔0<(S.ov (S.rw i)).num.sign:=by rw[wdB,zpA]
     by_cases c2:0<S.ov (S.rw i)
     .have c2':(0<(S.ov (S.rw i)).num.sign)=True:=Qh (Rf.1 c2)
      have hb:S.bad i=true:=by rw[YK,waC c1,waC c2];rfl
      rw[hb]at Y0;cases o with
      |none =>
       have Y0:ZJ S.bad S.rw (i+1)=some i:=Y0;simp only[go_sem,c2'];refine⟨i+1,Yz,(by show S.R-(i+1)<S.R-i;omega),?_⟩
       (refine Q6 rfl ?_ ?_ ?_ ?_<;>(try simp only[go_sem,Y0,Vr,Q4 (n:=(i:Int)+1) (by omega) (by omega)])<;>(try simp))
      |some r =>
       have hr:=KD r rfl;have UA:((r:Int)<0)=False:=Ql (by omega);have Uo:((r:Int)<(S.R:Int))=True:=Qh (by omega);have a2:=Z4 (f:=cI1) (sz:=1) (g:=S.rw) (n:=S.R) (i:=r) Ya (by omega);rw[wai]at a2;have Y0:ZJ S.bad S.rw (i+1)=if S.rw i<S.rw r then some i else some r:=by
        rw[Y0];show(if(true&&decide (S.rw i<S.rw r))=true then some i else some r)=_;by_cases c:S.rw i<S.rw r<;>simp[c]
       simp only[go_sem,c2',UA,Uo,g1,a2,hR]
       (repeat(refine Qg (by omega) ?_))
       by_cases c3:S.rw i<S.rw r
       .have c3':((S.rw i:Int)<(S.rw r:Int))=True:=Qh (by omega)
        rw[Qc c3]at Y0;simp only[go_sem,c3'];refine⟨i+1,Yz,(by show S.R-(i+1)<S.R-i;omega),?_⟩
        (refine Q6 rfl ?_ ?_ ?_ ?_<;>(try simp only[go_sem,Y0,Vr,Q4 (n:=(i:Int)+1) (by omega) (by omega)])<;>(try simp))
       .have c3':((S.rw i:Int)<(S.rw r:Int))=False:=Ql (by omega)
        rw[Qb c3]at Y0;simp only[go_sem,c3'];refine⟨i+1,Yz,(by show S.R-(i+1)<S.R-i;omega),?_⟩
        (refine Q6 rfl ?_ ?_ ?_ ?_<;>(try simp only[go_sem,Y0,Vr,Q4 (n:=(i:Int)+1) (by omega) (by omega)])<;>(try simp))
     .have c2':(0<(S.ov (S.rw i)).num.sign)=False:=Ql (fun h=>c2 (Rf.2 h))
      have Y0:=Dl (by rw[YK,wan c2,wd2]);simp only[go_sem,c2'];refine⟨i+1,Yz,(by show S.R-(i+1)<S.R-i;omega),?_⟩
      (refine Q6 rfl ?_ ?_ ?_ ?_<;>(try simp only[go_sem,Y0,Vr,Q4 (n:=(i:Int)+1) (by omega) (by omega)])<;>(try simp))
    .have c1':((S.n:Int)<=(S.rw i:Int))=False:=Ql (by omega)
     have Y0:=Dl (by rw[YK,wan c1,wd3]);simp only[go_sem,c1'];refine⟨i+1,Yz,(by show S.R-(i+1)<S.R-i;omega),?_⟩
     (refine Q6 rfl ?_ ?_ ?_ ?_<;>(try simp only[go_sem,Y0,Vr,Q4 (n:=(i:Int)+1) (by omega) (by omega)])<;>(try simp))
   .obtain rfl:i=S.R:=by omega
    rw[show ZJ S.bad S.rw S.R=S.broken from rfl];simp only[go_sem];exact zeJ (.inr rfl) trivial (by simp only[go_sem]<;>rfl) (fun _ _=>rfl)
theorem zoX(S:SX)(r:Nat){K:Nat}(hK:K<=900000000)(hB:BdX K S)(hr:r<S.R) :
  Ze prog 59 [.one (.ptr PIN 0),litI .i64 r] (xS S) (litI .i64 (zeb (S.column r))) (xS S):=by
 have Xk:=hB.dim;refine zaq QB call59 func59 rfl ntmps59 results59 (by simp) (by decide) ?_ ?_ ?_ ?_ ?_
 .exact zeu S
 .exact fun b=>wbq
 .exact zd0 S
 .trivial
 .simp only[go_sem,PIN,xS]
  refine QJ (fun i:Nat=>stL 74 [(0,.one (.ptr 1000000 0)),(1,litI .i64 r),(5,litI .i64 (zeb (ZJ (S.may r) S.cl i))),(14,.one (QX 1000002 1 (fnG S.n S.cl))),(15,litI .i64 S.n),(16,litI .i64 i)] (Z6 1000000 S []))
   (fun i=>i<=S.n) (fun i=>S.n-i) 0 ?_ (Qk _) ?_
  ·(refine Q6 rfl ?_ ?_ ?_ ?_<;>(try simp only[go_sem])<;>(try simp))
  .intro i hi
   simp only[go_sem];refine QI (fun Y1=>?_) (fun YI=>?_)
   .have Yz:i<S.n:=by omega
    have hn:S.n≠0:=by omega
    have Xu:(S.n==0)=false:=beq_false_of_ne hn;have hR:S.R≠0:=by omega
    have a1:=Z4 (f:=cI1) (sz:=1) (g:=S.cl) (n:=S.n) (i:=i) Ya Yz;rw[wai]at a1;have g2:=zdj (b:=1000002) (sz:=1) (g:=S.cl) hn;have g3:cvC 1000003 S.R = .vec 1000003 1 0 S.R:=zgv hR;have d1:(Q5 cI1 (fnG S.n S.cl)).length=S.n:=by rw[zbB Ya,wai]
    have a3:(rowsC 1000100 3 S.n S.R).drop r = .vec (1000100+r) 3 0 S.n::(rowsC 1000100 3 S.n S.R).drop (r+1):=zcy hr;have a4:=Z4 (f:=cR) (sz:=3) (g:=S.a r) (n:=S.n) (i:=i) zat Yz;have Xj:((r:Int)<(S.R:Int))=True:=Qh (by omega);have Sl:(r<S.R)=True:=Qh hr;have kf:Q9 (Z6 1000000 S []) (1000100+r)=some (Q5 cR (fnG S.n (S.a r))):=by rw[show(1000100:Nat)=1000000+100 from rfl,zjV,Qc hr]
    have hv:=hB.cl i Yz;have Y0:ZJ (S.may r) S.cl (i+1)=match ZJ (S.may r) S.cl i with
      |none=>if S.may r i then some i else none
      |some o=>if S.may r i&&decide (S.cl i<S.cl o)then some i else some o:=rfl
    have KD:∀ q,ZJ (S.may r) S.cl i=some q->q<i:=fun q h=>zpB h
    have KC:=hB.ov hv;have ha:=hB.a r i hr Yz;have YK:S.may r i=(decide (0<S.a r i)||(decide (S.a r i<0)&&(decide (S.cl i<S.n)||decide (S.ov (S.cl i)<0)))):=rfl;have Dl:S.may r i=false->ZJ (S.may r) S.cl (i+1)=ZJ (S.may r) S.cl i:=fun h=>by
     rw[Y0,h];cases ZJ (S.may r) S.cl i<;>rfl
    generalize ho:ZJ (S.may r) S.cl i=o at *
    have rd:=zlE S (S.cl i) (by omega) hB hv 1000000 (H:=Q9 (Z6 1000000 S [])) (by rw[zi0];trivial);have sg:=ze9 (S.a r i) (by omega);have sg2:=ze9 (S.ov (S.cl i)) (by omega);have negI:∀ {v:Rat},v<0↔v.num.sign<0:=fun {v}=>by
     rw[Int.sign_neg_iff];have h0:(0<=v)↔0<=v.num:=wdW.symm;have h1:v<0↔¬0<=v:=Rat.not_le.symm;rw[h1,h0];omega
    have posI:0<S.a r i↔0<(S.a r i).num.sign:=by rw[wdB,zpA]
    simp only[go_sem,g2,a1,Y1,hn,hR,g3,a3,a4,Xj,kf]
    (repeat(refine Qg (by omega) ?_))
    refine Q2 sg rfl ?_;by_cases c1:0<S.a r i
    .have c1':(0<(S.a r i).num.sign)=True:=Qh (posI.1 c1)
     have hb:S.may r i=true:=by rw[YK,waC c1];rfl
     simp only[go_sem,c1'];rw[hb]at Y0;cases o with
     |none =>
      have Y0:ZJ (S.may r) S.cl (i+1)=some i:=Y0;simp only[go_sem];refine⟨i+1,Yz,(by show S.n-(i+1)<S.n-i;omega),?_⟩
      (refine Q6 rfl ?_ ?_ ?_ ?_<;>(try simp only[go_sem,Y0,Xu,Q4 (n:=(i:Int)+1) (by omega) (by omega)])<;>(try simp))
     |some q =>
      have hr:=KD q rfl;have UA:((q:Int)<0)=False:=Ql (by omega);have Uo:((q:Int)<(S.n:Int))=True:=Qh (by omega);have a2:=Z4 (f:=cI1) (sz:=1) (g:=S.cl) (n:=S.n) (i:=q) Ya (by omega);rw[wai]at a2;have Y0:ZJ (S.may r) S.cl (i+1)=if S.cl i<S.cl q then some i else some q:=by
       rw[Y0];show(if(true&&decide (S.cl i<S.cl q))=true then some i else some q)=_;by_cases c:S.cl i<S.cl q<;>simp[c]
      simp only[go_sem,UA,Uo,g2,a2,hn]
      (repeat(refine Qg (by omega) ?_))
      by_cases c9:S.cl i<S.cl q
      .have c9':((S.cl i:Int)<(S.cl q:Int))=True:=Qh (by omega)
       rw[Qc c9]at Y0;simp only[go_sem,c9'];refine⟨i+1,Yz,(by show S.n-(i+1)<S.n-i;omega),?_⟩
       (refine Q6 rfl ?_ ?_ ?_ ?_<;>(try simp only[go_sem,Y0,Xu,Q4 (n:=(i:Int)+1) (by omega) (by omega)])<;>(try simp))
      .have c9':((S.cl i:Int)<(S.cl q:Int))=False:=Ql (by omega)
       rw[Qb c9]at Y0;simp only[go_sem,c9'];refine⟨i+1,Yz,(by show S.n-(i+1)<S.n-i;omega),?_⟩
       (refine Q6 rfl ?_ ?_ ?_ ?_<;>(try simp only[go_sem,Y0,Xu,Q4 (n:=(i:Int)+1) (by omega) (by omega)])<;>(try simp))
    .have c1':(0<(S.a r i).num.sign)=False:=Ql (fun h=>c1 (posI.2 h))
     by_cases c2:S.a r i<0
     .have c2':((S.a r i).num.sign<0)=True:=Qh (negI.1 c2)
      by_cases c3:S.cl i<S.n
      .have c3':((S.cl i:Int)<(S.n:Int))=True:=Qh (by omega)
       have hb:S.may r i=true:=by rw[YK,waC c2,waC c3,Bool.true_or,wbD,wc4]
       simp only[go_sem,c1',c2',c3'];rw[hb]at Y0;cases o with
       |none =>
        have Y0:ZJ (S.may r) S.cl (i+1)=some i:=Y0;simp only[go_sem];refine⟨i+1,Yz,(by show S.n-(i+1)<S.n-i;omega),?_⟩
        (refine Q6 rfl ?_ ?_ ?_ ?_<;>(try simp only[go_sem,Y0,Xu,Q4 (n:=(i:Int)+1) (by omega) (by omega)])<;>(try simp))
       |some q =>
        have hr:=KD q rfl;have UA:((q:Int)<0)=False:=Ql (by omega);have Uo:((q:Int)<(S.n:Int))=True:=Qh (by omega);have a2:=Z4 (f:=cI1) (sz:=1) (g:=S.cl) (n:=S.n) (i:=q) Ya (by omega);rw[wai]at a2;have Y0:ZJ (S.may r) S.cl (i+1)=if S.cl i<S.cl q then some i else some q:=by
         rw[Y0];show(if(true&&decide (S.cl i<S.cl q))=true then some i else some q)=_;by_cases c:S.cl i<S.cl q<;>simp[c]
        simp only[go_sem,UA,Uo,g2,a2,hn]
        (repeat(refine Qg (by omega) ?_))
        by_cases c9:S.cl i<S.cl q
        .have c9':((S.cl i:Int)<(S.cl q:Int))=True:=Qh (by omega)
         rw[Qc c9]at Y0;simp only[go_sem,c9'];refine⟨i+1,Yz,(by show S.n-(i+1)<S.n-i;omega),?_⟩
         (refine Q6 rfl ?_ ?_ ?_ ?_<;>(try simp only[go_sem,Y0,Xu,Q4 (n:=(i:Int)+1) (by omega) (by omega)])<;>(try simp))
        .have c9':((S.cl i:Int)<(S.cl q:Int))=False:=Ql (by omega)
         rw[Qb c9]at Y0;simp only[go_sem,c9'];refine⟨i+1,Yz,(by show S.n-(i+1)<S.n-i;omega),?_⟩
         (refine Q6 rfl ?_ ?_ ?_ ?_<;>(try simp only[go_sem,Y0,Xu,Q4 (n:=(i:Int)+1) (by omega) (by omega)])<;>(try simp))
      .have c3':((S.cl i:Int)<(S.n:Int))=False:=Ql (by omega)
       simp only[go_sem,c1',c2',c3'];refine zbL (.inr rfl) rd ?_;simp only[go_sem];refine Q2 sg2 rfl ?_;by_cases c4:S.ov (S.cl i)<0
       .have c4':((S.ov (S.cl i)).num.sign<0)=True:=Qh (negI.1 c4)
        have hb:S.may r i=true:=by rw[YK,waC c2,waC c4,wc4,wbD,wc4]
        simp only[go_sem,c4'];rw[hb]at Y0;cases o with
        |none =>
         have Y0:ZJ (S.may r) S.cl (i+1)=some i:=Y0;simp only[go_sem];refine⟨i+1,Yz,(by show S.n-(i+1)<S.n-i;omega),?_⟩
         (refine Q6 rfl ?_ ?_ ?_ ?_<;>(try simp only[go_sem,Y0,Xu,Q4 (n:=(i:Int)+1) (by omega) (by omega)])<;>(try simp))
        |some q =>
         have hr:=KD q rfl;have UA:((q:Int)<0)=False:=Ql (by omega);have Uo:((q:Int)<(S.n:Int))=True:=Qh (by omega);have a2:=Z4 (f:=cI1) (sz:=1) (g:=S.cl) (n:=S.n) (i:=q) Ya (by omega);rw[wai]at a2;have Y0:ZJ (S.may r) S.cl (i+1)=if S.cl i<S.cl q then some i else some q:=by
          rw[Y0];show(if(true&&decide (S.cl i<S.cl q))=true then some i else some q)=_;by_cases c:S.cl i<S.cl q<;>simp[c]
         simp only[go_sem,UA,Uo,g2,a2,hn]
         (repeat(refine Qg (by omega) ?_))
         by_cases c9:S.cl i<S.cl q
         .have c9':((S.cl i:Int)<(S.cl q:Int))=True:=Qh (by omega)
          rw[Qc c9]at Y0;simp only[go_sem,c9'];refine⟨i+1,Yz,(by show S.n-(i+1)<S.n-i;omega),?_⟩
          (refine Q6 rfl ?_ ?_ ?_ ?_<;>(try simp only[go_sem,Y0,Xu,Q4 (n:=(i:Int)+1) (by omega) (by omega)])<;>(try simp))
         .have c9':((S.cl i:Int)<(S.cl q:Int))=False:=Ql (by omega)
          rw[Qb c9]at Y0;simp only[go_sem,c9'];refine⟨i+1,Yz,(by show S.n-(i+1)<S.n-i;omega),?_⟩
          (refine Q6 rfl ?_ ?_ ?_ ?_<;>(try simp only[go_sem,Y0,Xu,Q4 (n:=(i:Int)+1) (by omega) (by omega)])<;>(try simp))
       .have c4':((S.ov (S.cl i)).num.sign<0)=False:=Ql (fun h=>c4 (negI.2 h))
        have hb:S.may r i=false:=by rw[YK,wan c1,wan c3,wan c4,wdy,wd2,wdy]
        simp only[go_sem,c4'];have Y0:=Dl hb;refine⟨i+1,Yz,(by show S.n-(i+1)<S.n-i;omega),?_⟩
        (refine Q6 rfl ?_ ?_ ?_ ?_<;>(try simp only[go_sem,Y0,Xu,Q4 (n:=(i:Int)+1) (by omega) (by omega)])<;>(try simp))
     .have c2':((S.a r i).num.sign<0)=False:=Ql (fun h=>c2 (negI.2 h))
      have hb:S.may r i=false:=by rw[YK,wan c1,wan c2,wd3,wdy]
      simp only[go_sem,c1',c2'];have Y0:=Dl hb;refine⟨i+1,Yz,(by show S.n-(i+1)<S.n-i;omega),?_⟩
      (refine Q6 rfl ?_ ?_ ?_ ?_<;>(try simp only[go_sem,Y0,Xu,Q4 (n:=(i:Int)+1) (by omega) (by omega)])<;>(try simp))
   .obtain rfl:i=S.n:=by omega
    rw[show ZJ (S.may r) S.cl S.n=S.column r from rfl];simp only[go_sem];exact zeJ (.inr rfl) trivial (by simp only[go_sem]<;>rfl) (fun _ _=>rfl)
theorem zdo{n:Nat}{g:Nat->Rat}{i:Nat}(hi:i<n){q:Rat}:(Q5 cR (fnG n g)).take (i*3)++C.t (.lit (.bool (decide (q.num<0))))::C.t (eN (dig q.num.natAbs))::C.t (eN (dig q.den))::(Q5 cR (fnG n g)).drop (i*3+3)=Q5 cR (fnG n (fun v=>if v=i then q else g v)):=by
 rw[zzf (by rw[Zj];exact hi),zpd]
theorem zgg{n:Nat}{g:Nat->Rat}:(Q5 cR (fnG n g)).length=n*3:=zbB zat
theorem zyK{S:SX}{t sz len:Nat}{x:T}(ht:t<PIN){c:C}(h:inC (xS S) c):fC t sz len x c=c:=by
 have hne:∀ b,xS S b≠none->b≠t:=fun b hb e=>by have:=(zeL hb).1;omega
 cases c with
 |t x=>rfl
 |ptr b o=>show(if b=t then _ else _)=_;rw[Qb (hne b h)]
 |vec b s o n=>show(if b=t then _ else _)=_;rw[Qb (hne b h)]
 |fn f caps =>
  show(if caps.any (fun p=>p.1==t)then _ else _)=_;rw[Qb];intro h2;obtain⟨p,hp,e⟩:=wbm.1 h2;exact hne p.1 (h p hp) (beq_iff_eq.1 e)
theorem zpf{S:SX}{e:List (Nat×List C)}(h:∀ k∈e.map (·.1),k<PIN){b:Nat}(hb:PIN<=b):Q9 (Z6 PIN S e) b=xS S b:=by
 unfold xS Z6;rw[ziE,zbg (l:=e) fun hm=>by have:=h b hm;omega,wak];cases Q9 (Zs PIN S) b<;>rfl
theorem zvU{σ:St}{S:SX}{t sz len:Nat}{x:T}(ht:t<PIN)(h:∀ b,PIN<=b->σ.H b=xS S b):∀ b,PIN<=b->(σ.frz t sz len x).H b=xS S b:=fun b hb=>by
 rw[zmr,Qb (by omega),h b hb];cases hx:xS S b with
 |none=>rfl
 |some cs =>
  show some (cs.map _)=some cs;congr 1;have e:cs.map (fC t sz len x)=cs.map id:=way fun c hc=>zyK ht (zd0 S b cs hx c hc)
  rw[e,wb4]
theorem zui(S:SX)(r:Nat){K:Nat}(hK:K<=900000000)(hB:BdX K S)(hr:r<S.R)(K9:S.n<=S.rw r) :
  Ze prog 60 [.one (.ptr PIN 0),litI .i64 r,litI .i64 S.R] (xS S) (.one (.t (eL cR (fnG S.R (Z5 S r S.n))))) (xS S):=by
 have Xk:=hB.dim;refine zaq QB call60 func60 rfl ntmps60 results60 (by simp) (by decide) ?_ ?_ ?_ ?_ ?_
 .exact zeu S
 .exact fun b=>wbq
 .exact zd0 S
 .trivial
 .have z:=zmc
  have hR:S.R≠0:=by omega
  have Vr:(S.R==0)=false:=beq_false_of_ne hR;simp only[go_sem,PIN,xS,QL]
  (repeat(refine Qg (by omega) ?_))
  refine QJ (fun i:Nat=>stL 80 [(0,.one (.ptr 1000000 0)),(1,litI .i64 r),(7,.one (.vec 12 3 0 S.R)),(13,.one (.vec 12 3 0 S.R)),(14,litI .i64 S.R),(15,litI .i64 i)]
   (Z6 1000000 S [(12,Q5 cZ (((fnG S.R fun _=>(0:Rat)).take i).map some++List.replicate (S.R-i) none))])) (fun i=>i<=S.R) (fun i=>S.R-i) 0 ?_ (Qk _) ?_
  .rw[was,wbP,waL,wbw]
   refine GStep.trans (zaA 12 (cs:=Zh S.R z3) (by simp only[go_sem]<;>rfl) (ze6 _)) ?_
   (refine Q6 rfl ?_ ?_ ?_ ?_<;>(try simp only[go_sem,QF,QL,Yd,zaN])<;>(try simp))
  .intro i hi
   simp only[go_sem];refine QI (fun Y1=>?_) (fun YI=>?_)
   .have Yz:i<S.R:=by omega
    have Y4:(fnG S.R fun _=>(0:Rat)).length=S.R:=Zj;have Kc:(((fnG S.R fun _=>(0:Rat)).take i).map some++List.replicate (S.R-i) none).length=S.R:=by simp[Zj];omega
    have Y0:=zf4 (l:=fnG S.R fun _=>(0:Rat)) (n:=S.R) (i:=i) (by rw[Y4];exact Yz) (by omega);rw[za4]at Y0;generalize ((fnG S.R fun _=>(0:Rat)).take i).map some++List.replicate (S.R-i) none=ys at *
    have Ua:=zgJ (ys:=ys) (i:=i) (by omega) (q:=0);rw[Y0]at Ua;simp only[go_sem,Y1];((repeat(refine Q3 0 rfl ?_;simp only[go_sem,Y1,QL]));refine Q2 (z) rfl ?_;simp only[go_sem,Y1,QL];(repeat(refine Q3 0 rfl ?_;simp only[go_sem,Y1,QL])));simp only[go_sem,zgq]
    (repeat(refine Qg (by omega) ?_))
    refine⟨i+1,Yz,(by show S.R-(i+1)<S.R-i;omega),?_⟩
    (refine Q6 rfl ?_ ?_ ?_ ?_<;>(try simp only[go_sem,QF,QL,Yd,zaN,Ua,Q4 (n:=(i:Int)+1) (by omega) (by omega)])<;>(try simp))
   .obtain rfl:i=S.R:=by omega
    rw[waM (by rw[Zj];exact Qd _),wbu,wbS,wak,zgD];obtain⟨j0,KJ⟩:∃ j,j=S.rw r-S.n:=⟨_,rfl⟩
    have YX:=hB.rw r hr;have Nf:IntKind.i64.wrap ((S.rw r:Int)-(S.n:Int))=(j0:Int):=by rw[Q4 (by omega) (by omega)];omega
    have JJ:((j0:Int)<(S.R:Int))=True:=Qh (by omega);have X7:((0:Int)<=(j0:Int))=True:=Qh (by omega);have Xj:((r:Int)<(S.R:Int))=True:=Qh (by omega);have a1:=Z4 (f:=cI1) (sz:=1) (g:=S.rw) (n:=S.R) (i:=r) Ya hr;rw[wai]at a1;have g1:=zdj (b:=1000001) (sz:=1) (g:=S.rw) hR;have d1:(Q5 cI1 (fnG S.R S.rw)).length=S.R:=by rw[zbB Ya,wai]
    have d2:∀ {g:Nat->Rat},(Q5 cR (fnG S.R g)).length=S.R*3:=zgg;obtain⟨u1,WN⟩:∃ c:Int,c=1:=⟨_,rfl⟩
    have o1:Q7 prog 106 [tI .i64 1] (eI u1):=by rw[WN];exact zbP 1 (by decide) (by decide)
    have o2:Q7 prog 102 [eI u1] (eQ 1):=by
     have:=zgr u1 (by have:lN u1<=1:=ZQ (by omega);omega)
     rwa[show((u1:Int):Rat)=1 by rw[WN];rfl]at this
    have h0:fnG S.R (fun v=>if v=j0 then(1:Rat)else 0)=fnG S.R (Z5 S r 0):=Yo fun v _=>by
     show _=if v=S.rw r-S.n then(1:Rat)else 0
     rw[KJ]
    have sd:=zdo (n:=S.R) (g:=fun _=>0) (i:=j0) (by omega) (q:=1);rw[h0]at sd;simp only[go_sem];refine Q3 0 rfl ?_;simp only[go_sem,g1,a1,hR,Xj,Nf]
    (repeat(refine Qg (by omega) ?_))
    ((repeat(refine Q3 0 rfl ?_;simp only[go_sem,QL,hR]));refine Q2 (o1) rfl ?_;simp only[go_sem];(repeat(refine Q3 0 rfl ?_;simp only[go_sem,QL,hR]));refine Q2 (o2) rfl ?_;simp only[go_sem,QL];(repeat(refine Q3 0 rfl ?_;simp only[go_sem,QL,hR])));simp only[go_sem,d2,JJ,X7]
    (repeat(refine Qg (by omega) ?_))
    refine QJ (fun c:Nat=>stL 80 [(0,.one (.ptr 1000000 0)),(1,litI .i64 r),(7,.one (.vec 12 3 0 S.R)),(44,.one (QX 1000002 1 (fnG S.n S.cl))),(45,litI .i64 S.n),(46,litI .i64 c)]
     (Z6 1000000 S [(12,Q5 cR (fnG S.R (Z5 S r c)))])) (fun c=>c<=S.n) (fun c=>S.n-c) 0 ?_ (Qk _) ?_
    ·(refine Q6 rfl ?_ ?_ ?_ ?_<;>(try simp only[go_sem,QF,QL,Yd,zaN,sd])<;>(try simp))
    .intro c hc
     simp only[go_sem];refine QI (fun R6=>?_) (fun S3=>?_)
     .have Kd:c<S.n:=by omega
      have hn:S.n≠0:=by omega
      have Xu:(S.n==0)=false:=beq_false_of_ne hn;have b1:=Z4 (f:=cI1) (sz:=1) (g:=S.cl) (n:=S.n) (i:=c) Ya Kd;rw[wai]at b1;have g2:=zdj (b:=1000002) (sz:=1) (g:=S.cl) hn;have e1:(Q5 cI1 (fnG S.n S.cl)).length=S.n:=by rw[zbB Ya,wai]
      have Xo:=hB.cl c Kd;have Y0:Z5 S r (c+1)=if S.n<=S.cl c then fun v=>if v=S.cl c-S.n then -(S.a r c)else Z5 S r c v else Z5 S r c:=rfl
      simp only[go_sem,g2,b1,R6,hn]
      (repeat(refine Qg (by omega) ?_))
      by_cases c1:S.n<=S.cl c
      .have c1':((S.n:Int)<=(S.cl c:Int))=True:=Qh (by omega)
       rw[Qc c1]at Y0;obtain⟨j,hj⟩:∃ j,j=S.cl c-S.n:=⟨_,rfl⟩
       rw[<-hj]at Y0;have Nf:IntKind.i64.wrap ((S.cl c:Int)-(S.n:Int))=(j:Int):=by rw[Q4 (by omega) (by omega)];omega
       have JJ:((j:Int)<(S.R:Int))=True:=Qh (by omega);have X7:((0:Int)<=(j:Int))=True:=Qh (by omega);have g3:cvC 1000003 S.R = .vec 1000003 1 0 S.R:=zgv hR;have a3:(rowsC 1000100 3 S.n S.R).drop r = .vec (1000100+r) 3 0 S.n::(rowsC 1000100 3 S.n S.R).drop (r+1):=zcy hr;have a4:=Z4 (f:=cR) (sz:=3) (g:=S.a r) (n:=S.n) (i:=c) zat Kd;have kf:∀ e,Q9 (Z6 1000000 S e) (1000100+r)=some (Q5 cR (fnG S.n (S.a r))):=fun e=>by rw[show(1000100:Nat)=1000000+100 from rfl,zjV,Qc hr]
       have mi:=zhw (S.a r c) (by have:=hB.a r c hr Kd;omega);have sd:=zdo (n:=S.R) (g:=Z5 S r c) (i:=j) (by omega) (q:=-(S.a r c));rw[<-Y0]at sd;generalize Z5 S r c=g at *
       generalize GB:Z5 S r (c+1)=g' at *
       simp only[go_sem,c1'];refine Q3 0 rfl ?_;simp only[go_sem,hR,Xj,Nf,g3,a3,a4,kf,R6]
       (repeat(refine Qg (by omega) ?_))
       refine Q2 mi rfl ?_;simp only[go_sem,d2,QL,JJ,X7]
       (repeat(refine Qg (by omega) ?_))
       refine⟨c+1,Kd,(by show S.n-(c+1)<S.n-c;omega),?_⟩
       (refine Q6 rfl ?_ ?_ ?_ ?_<;>(try simp only[go_sem,QF,QL,Yd,zaN,sd,GB,Xu,Q4 (n:=(c:Int)+1) (by omega) (by omega)])<;>(try simp))
      .have c1':((S.n:Int)<=(S.cl c:Int))=False:=Ql (by omega)
       rw[Qb c1]at Y0;simp only[go_sem,c1'];refine⟨c+1,Kd,(by show S.n-(c+1)<S.n-c;omega),?_⟩
       (refine Q6 rfl ?_ ?_ ?_ ?_<;>(try simp only[go_sem,QF,QL,zaN,Y0,Xu,Q4 (n:=(c:Int)+1) (by omega) (by omega)])<;>(try simp))
     .obtain rfl:c=S.n:=by omega
      have Kb:=zqm (fnG S.R (Z5 S r S.n)) (by rw[Zj];omega);simp only[go_sem];refine zcd 12 3 S.R rfl Kb (by simp only[go_sem,QL]<;>rfl) (by have:=Yp (f:=cR) (xs:=fnG S.R (Z5 S r S.n)) zat;rwa[Zj]at this) (by simp only[go_sem]<;>rfl) ?_;simp only[go_sem];exact zeJ (.inr rfl) trivial (by simp only[go_sem]<;>rfl) (zvU (by decide) fun b hb=>zpf (by intro k hk;simp at hk;subst hk;decide) hb)
abbrev waS(S:SX)(a:Nat->Nat->Rat):SX:=⟨S.n,S.R,S.rw,S.cl,a,S.va,S.mo⟩
theorem AtS.row'{H:QE}{b:Nat}{S:SX}{a a':Nat->Nat->Rat}(h:AtS H b (waS S a)){r:Nat}(hr:r<S.R)(g:Nat->Rat)(ha:∀ i,i<S.R->∀ j,j<S.n->a' i j=if i=r then g j else a i j) :
  AtS (upd H (b+100+r) (some (Q5 cR (fnG S.n g)))) b (waS S a'):=fun k hk cs hc=>by
 refine AtS.row h (r:=r) hr g k hk cs ?_;rw[ZT]at hc ⊢;by_cases c1:100<=k/\k<100+S.R
 .have c2:100<=k/\k<100+(waS S a').R:=c1
  rw[Qc c2]at hc;rw[Qc ⟨c1.1,by show k<100+S.R;omega⟩,<-hc];show some (Q5 cR (fnG S.n (if k-100=r then g else a (k-100))))=some (Q5 cR (fnG S.n (a' (k-100))));congr 2;refine Yo fun j hj=>?_
  rw[ha _ (by omega) j hj];split<;>rfl
 .have c2:¬(100<=k/\k<100+(waS S a').R):=c1
  rw[Qb c2]at hc;rw[Qb (fun h=>c1 ⟨h.1,by have:=h.2;exact this⟩),<-hc];rfl
theorem AtS.same{H:QE}{b:Nat}{S:SX}{a a':Nat->Nat->Rat}(h:AtS H b (waS S a))(ha:∀ i,i<S.R->∀ j,j<S.n->a' i j=a i j):AtS H b (waS S a'):=fun k hk cs hc=>by
 refine h k hk cs ?_;rw[ZT]at hc ⊢;by_cases c1:100<=k/\k<100+S.R
 .have c2:100<=k/\k<100+(waS S a').R:=c1
  rw[Qc c2]at hc;rw[Qc ⟨c1.1,by show k<100+S.R;omega⟩,<-hc];show some (Q5 cR (fnG S.n (a (k-100))))=some (Q5 cR (fnG S.n (a' (k-100))));congr 2;exact Yo fun j hj=>(ha _ (by omega) j hj).symm
 .have c2:¬(100<=k/\k<100+(waS S a').R):=c1
  rw[Qb c2]at hc;rw[Qb (fun h=>c1 ⟨h.1,by have:=h.2;exact this⟩),<-hc];rfl
theorem zac{i t:Nat}(h:t<1000100):(1000100+i=t)=False:=Ql (by omega)
theorem zab{i t:Nat}(h:t<1000100):(t=1000100+i)=False:=Ql (by omega)
def tr1(S:SX)(r c j i k:Nat):Rat:=if i=r then(if k<j/\k≠c then -(S.a r k*(S.a r c)⁻¹)else S.a r k)else S.a i k
def tr3(S:SX)(r c m i k:Nat):Rat:=if i=r then S.trow r c k else if i<m then S.ta r c i k else S.a i k
def tr4(S:SX)(r c m j i k:Nat):Rat:=if i=r then S.trow r c k else if i<m then S.ta r c i k else if i=m/\k<j then S.ta r c i k else S.a i k
theorem zvE(S:SX)(r c:Nat):tr1 S r c 0=S.a:=by
 funext i k;unfold tr1;by_cases e:i=r
 .rw[Qc e,Qb (fun h=>wa5 _ h.1),e]
 .rw[Qb e]
theorem zzq(S:SX)(r c j k:Nat):tr1 S r c j r k=if k<j/\k≠c then -(S.a r k*(S.a r c)⁻¹)else S.a r k:=Qc rfl
theorem zzr(S:SX)(r c m j k:Nat):tr4 S r c m j r k=S.trow r c k:=Qc rfl
theorem zxg{S:SX}{r c i k:Nat}(h:S.a i c=0)(hi:i≠r):S.ta r c i k=S.a i k:=by
 unfold SX.ta;rw[Qb hi];by_cases e:k=c
 .rw[Qc e,e,h,wbK]
 .rw[Qb e,h,wbK,wc5]
theorem zxh{S:SX}{r c m i k:Nat}(hk:k<S.n)(hm:m≠r):tr4 S r c m S.n i k=tr3 S r c (m+1) i k:=by
 unfold tr4 tr3;by_cases e:i=r
 .rw[Qc e,Qc e]
 .rw[Qb e,Qb e]
  by_cases c1:i<m
  .rw[Qc c1,Qc (by omega)]
  .rw[Qb c1]
   by_cases c2:i=m
   .rw[Qc ⟨c2,hk⟩,Qc (by omega)]
   .rw[Qb (fun h=>c2 h.1),Qb (by omega)]
theorem zvF{S:SX}{r c m:Nat}:tr4 S r c m 0=tr3 S r c m:=by
 funext i k;unfold tr4 tr3;by_cases e:i=r
 .rw[Qc e,Qc e]
 .rw[Qb e,Qb e]
  by_cases c1:i<m
  .rw[Qc c1,Qc c1]
  .rw[Qb c1,Qb c1,Qb (fun h=>wa5 _ h.2)]
theorem zxi{S:SX}{r c k K:Nat}(h1:lQ (S.a r c)<=K)(h2:lQ (S.a r k)<=K):lQ (S.trow r c k)<=2*K:=by
 unfold SX.trow;have h3:=zjy (S.a r c);split
 .omega
 .rw[zfm];have:=zfn (S.a r k) (S.a r c)⁻¹;omega
theorem zrv{n:Nat}{g:Nat->Nat}{i:Nat}(hi:i<n){y:Nat}:(Q5 cI1 (fnG n g)).take i++C.t (.lit (.int .i64 (y:Int)))::(Q5 cI1 (fnG n g)).drop (i+1)=Q5 cI1 (fnG n (fun v=>if v=i then y else g v)):=by
 have:=zhz (f:=cI1) (sz:=1) Ya hi (g:=g) (y:=y);rw[wai]at this;rw[<-this];simp[Yq,cI1]
theorem zvG{S:SX}{a0 a1:Nat->Nat->Rat}{rw' cl':Nat->Nat}(hR:S.R≠0)(hn:S.n≠0)(ha:∀ i,i<S.R->∀ j,j<S.n->a1 i j=a0 i j) :
  ∀ b,PIN<=b->upd (upd (Q9 (Z6 1000000 (waS S a0) [])) 1000001 (some (Q5 cI1 (fnG S.R rw')))) 1000002 (some (Q5 cI1 (fnG S.n cl'))) b=xS ⟨S.n,S.R,rw',cl',a1,S.va,S.mo⟩ b:=by
 have h1:AtS (Q9 (Z6 1000000 (waS S a0) [])) 1000000 (waS S a1):=AtS.same (by rw[zi0];trivial) ha;have h2:=h1.rw (S:=waS S a1) hR rw';have h3:=h2.cl hn cl';refine zx8 h3 fun t ht hx=>?_
 have Vx:xS S t=none:=(zfj (S:=S) (S':=⟨S.n,S.R,rw',cl',a1,S.va,S.mo⟩) rfl rfl t).1 (by rw[zbD];exact hx);have hne:∀ k,xS S (PIN+k)≠none->t≠PIN+k:=fun k hk e=>hk (by rw[<-e];exact Vx)
 have k1:xS S (PIN+1)≠none:=by
  rw[zbD,ZT,Qb (by omega),Qc rfl];exact zi1.2 hR
 have k2:xS S (PIN+2)≠none:=by
  rw[zbD,ZT,Qb (by omega),Qb (by omega),Qc rfl];exact zi1.2 hn
 rw[zaG,Qb (hne 2 k2),zaG,Qb (hne 1 k1)];have:xS (waS S a0) t=none:=(zfj (S:=S) (S':=waS S a0) rfl rfl t).2 Vx;exact this
theorem zyx(S:SX)(r c:Nat){K:Nat}(hK:K<=400000000)(Xk:S.n+S.R<90000)(Ej:∀ i j,i<S.R->j<S.n->lQ (S.a i j)<=K)(hr:r<S.R)(hc:c<S.n) :
  Ze prog 111 [.one (.ptr PIN 0),litI .i64 r,litI .i64 c] (xS S) (.tup []) (xS ⟨S.n,S.R,fun i=>if i=r then S.cl c else S.rw i,fun j=>if j=c then S.rw r else S.cl j,S.ta r c,S.va,S.mo⟩):=by
 refine zaq QB call111 func111 rfl ntmps111 results111 (by simp) (by decide) ?_ ?_ ?_ ?_ ?_
 .exact zeu _
 .exact zfj rfl rfl
 .exact zd0 _
 .trivial
 .have hR:S.R≠0:=by omega
  have hn:S.n≠0:=by omega
  have Vr:(S.R==0)=false:=beq_false_of_ne hR;have Xu:(S.n==0)=false:=beq_false_of_ne hn;have Xj:((r:Int)<(S.R:Int))=True:=Qh (by omega);have J7:((c:Int)<(S.n:Int))=True:=Qh (by omega);have g3:cvC 1000003 S.R = .vec 1000003 1 0 S.R:=zgv hR;have a3:∀ {i},i<S.R->(rowsC 1000100 3 S.n S.R).drop i = .vec (1000100+i) 3 0 S.n::(rowsC 1000100 3 S.n S.R).drop (i+1):=fun h=>zcy h
  have kf:∀ {a:Nat->Nat->Rat} {i:Nat},i<S.R->∀ e,Q9 (Z6 1000000 (waS S a) e) (1000100+i)=some (Q5 cR (fnG S.n (a i))):=fun {a i} hi e=>by
   rw[show(1000100:Nat)=1000000+100 from rfl,zjV,Qc (show i<(waS S a).R from hi)]
  have ca:∀ {g:Nat->Rat} {j:Nat},j<S.n->(Q5 cR (fnG S.n g)).drop (j*3)=(cR (g j)).map .t++Q5 cR ((fnG S.n g).drop (j+1)):=fun h=>Z4 zat h
  have ctf:∀ {a:Nat->Nat->Rat} {i:Nat},i<S.R->∀ D,(zbs 1000000 (waS S a) D).contains (1000100+i)=true:=fun {a i} hi D=>zwy (b:=1000000) (S:=waS S a) hi
  have lnL:∀ {g:Nat->Rat},(Q5 cR (fnG S.n g)).length=S.n*3:=zgg;have YG:=zbk (b:=1000100) (sz:=3) (len:=S.n) (n:=S.R);have Db:=Ej r c hr hc;have Y3:=zjy (S.a r c);have ov:=zl9 (S.a r c) (by omega);have xw:xS S=Q9 (Z6 1000000 (waS S S.a) []):=rfl;rw[xw];have kr:=kf (a:=S.a) hr;have ar:=a3 hr;have cc:=ca (g:=S.a r) hc;simp only[go_sem,PIN];simp only[go_sem,hR,g3,ar,Xj,kr,cc,J7]
  (repeat(refine Qg (by omega) ?_))
  refine Q2 ov rfl ?_;simp only[go_sem,hR,g3,ar,Xj,QL]
  (repeat(refine Qg (by omega) ?_))
  refine QJ (fun j:Nat=>stL 151 [(0,.one (.ptr 1000000 0)),(1,litI .i64 r),(2,litI .i64 c),(6,.one (.ptr 6 0)),(31,.one (.vec (1000100+r) 3 0 S.n)),(32,litI .i64 S.n),(33,litI .i64 j)]
   (Z6 1000000 (waS S (tr1 S r c j)) [(6,(cR (S.a r c)⁻¹).map .t)])) (fun j=>j<=S.n) (fun j=>S.n-j) 0 ?_ (Qk _) ?_
  .rw[zvE]
   have ct:=ctf (a:=S.a) hr
   (refine Q6 rfl ?_ ?_ ?_ ?_<;>(try simp only[go_sem,QL,Yd,zaN,ct])<;>(try simp))
  .intro j hj
   simp only[go_sem];refine QI (fun Y1=>?_) (fun YI=>?_)
   .have Yz:j<S.n:=by omega
    have kj:=kf (a:=tr1 S r c j) hr;have cj:=ca (g:=tr1 S r c j r) Yz;rw[zzq,Qb (fun h=>wa8 _ h.1)]at cj;have ct:=ctf (a:=tr1 S r c (j+1)) hr;have Tl:=Ej r j hr Yz;have hm:=zfn (S.a r j) (S.a r c)⁻¹;have o1:=zgt (S.a r j) (S.a r c)⁻¹ (by omega) (by omega);have o2:=zhw (S.a r j*(S.a r c)⁻¹) (by omega);have sd:=zdo (n:=S.n) (g:=tr1 S r c j r) Yz (q:=-(S.a r j*(S.a r c)⁻¹));simp only[go_sem,kj,cj,Y1,QL]
    (repeat(refine Qg (by omega) ?_))
    by_cases e:j=c
    .have e':((j:Int)=(c:Int))=True:=Qh (by omega)
     have Y0:tr1 S r c (j+1)=tr1 S r c j:=by
      funext i k;unfold tr1;by_cases ei:i=r
      .rw[Qc ei,Qc ei]
       by_cases e3:k<j/\k≠c
       .rw[Qc e3,Qc ⟨by omega,e3.2⟩]
       .rw[Qb e3,Qb (fun h=>e3 ⟨by omega,h.2⟩)]
      .rw[Qb ei,Qb ei]
     rw[Y0]at ct;simp only[go_sem,e'];refine⟨j+1,Yz,(by show S.n-(j+1)<S.n-j;omega),?_⟩
     (refine Q6 rfl ?_ ?_ ?_ ?_<;>(try simp only[go_sem,QL,Yd,zaN,ct,Y0,Q4 (n:=(j:Int)+1) (by omega) (by omega)])<;>(try simp))
    .have e':((j:Int)=(c:Int))=False:=Ql (by omega)
     have Vj:∀ {H:QE},AtS H 1000000 (waS S (tr1 S r c j))->AtS (upd H (1000100+r) (some (Q5 cR (fnG S.n fun v=>if v=j then -(S.a r j*(S.a r c)⁻¹)else tr1 S r c j r v)))) 1000000 (waS S (tr1 S r c (j+1))):=fun h =>
      AtS.row' (b:=1000000) h hr _ fun i _ k _=>by
       unfold tr1;by_cases ei:i=r
       .rw[Qc ei,Qc ei,Qc rfl]
        by_cases ek:k=j
        .rw[Qc ek,Qc ⟨by omega,by omega⟩,ek]
        .rw[Qb ek]
         by_cases e3:k<j/\k≠c
         .rw[Qc e3,Qc ⟨by omega,e3.2⟩]
         .rw[Qb e3,Qb (fun h=>e3 ⟨by omega,h.2⟩)]
       .rw[Qb ei,Qb ei,Qb ei]
     simp only[go_sem,e'];refine Q3 0 rfl ?_;simp only[go_sem,hR,g3,ar,Xj,QL]
     (repeat(refine Qg (by omega) ?_))
     ((repeat(refine Q3 0 rfl ?_;simp only[go_sem,QL]));refine Q2 (o1) rfl ?_;simp only[go_sem];(repeat(refine Q3 0 rfl ?_;simp only[go_sem,QL]));refine Q2 (o2) rfl ?_;simp only[go_sem];(repeat(refine Q3 0 rfl ?_;simp only[go_sem,QL])));have Vu:(r<S.R)=True:=Qh hr;simp only[go_sem,lnL,Y1,zac,Vu]
     (repeat(refine Qg (by omega) ?_))
     refine⟨j+1,Yz,(by show S.n-(j+1)<S.n-j;omega),?_⟩
     (refine Q6 rfl ?_ ?_ ?_ ?_<;>(try simp only[go_sem,QL,zaN,ct,zab,sd,Q4 (n:=(j:Int)+1) (by omega) (by omega)])<;>(try simp only[Qz,Qw,Qx,Qv]))
     exact Vj (by simp only[go_sem,Yd])
   .obtain rfl:j=S.n:=by omega
    have kj:=kf (a:=tr1 S r c S.n) hr;have ctr:=fun {a} D=>ctf (a:=a) hr D
    have sd:=zdo (n:=S.n) (g:=tr1 S r c S.n r) hc (q:=(S.a r c)⁻¹);have Vu:(r<S.R)=True:=Qh hr;have Vj:∀ {H:QE},AtS H 1000000 (waS S (tr1 S r c S.n))->AtS (upd H (1000100+r) (some (Q5 cR (fnG S.n fun v=>if v=c then(S.a r c)⁻¹ else tr1 S r c S.n r v)))) 1000000 (waS S (tr3 S r c 0)):=fun h =>
     AtS.row' (b:=1000000) h hr _ fun i _ k hk=>by
      unfold tr3 tr1;by_cases ei:i=r
      .rw[Qc ei,Qc ei,Qc rfl]
       unfold SX.trow;by_cases ek:k=c
       .rw[Qc ek,Qc ek]
       .rw[Qb ek,Qb ek,Qc ⟨hk,ek⟩]
      .rw[Qb ei,Qb ei,Qb ei,Qb (wa5 _)]
    simp only[go_sem];refine Q3 0 rfl ?_;simp only[go_sem,hR,g3,ar,Xj,kj,lnL,J7,QL,zab]
    (repeat(refine Qg (by omega) ?_))
    refine QJ (fun m:Nat=>stL 151 [(0,.one (.ptr 1000000 0)),(1,litI .i64 r),(2,litI .i64 c),(68,.one (.vec 1000003 1 0 S.R)),(69,litI .i64 S.R),(70,litI .i64 m)]
     (Z6 1000000 (waS S (tr3 S r c m)) [])) (fun m=>m<=S.R) (fun m=>S.R-m) 0 ?_ (Qk _) ?_
    ·(refine Q6 rfl ?_ ?_ ?_ ?_<;>(try simp only[go_sem,Vr,sd])<;>(try simp only[Qz,Qw,Qv]))
     exact Vj (by simp only[go_sem])
    .intro m hm
     simp only[go_sem];refine QI (fun KW=>?_) (fun UM=>?_)
     .have Xp:m<S.R:=by omega
      have NW:(m<S.R)=True:=Qh Xp;have am:=a3 Xp;have km:=kf (a:=tr3 S r c m) Xp;have ctm:=fun {a} D=>ctf (a:=a) Xp D
      have cm:=ca (g:=tr3 S r c m m) hc;simp only[go_sem,hR,am,KW,km,cm,J7,QL]
      (repeat(refine Qg (by omega) ?_))
      by_cases em:m=r
      .have em':((m:Int)=(r:Int))=True:=Qh (by omega)
       have Y0:tr3 S r c (m+1)=tr3 S r c m:=by
        funext i k;unfold tr3;by_cases ei:i=r
        .rw[Qc ei,Qc ei]
        .rw[Qb ei,Qb ei]
         by_cases e3:i<m
         .rw[Qc e3,Qc (by omega)]
         .rw[Qb e3,Qb (by omega)]
       simp only[go_sem,em'];refine⟨m+1,Xp,(by show S.R-(m+1)<S.R-m;omega),?_⟩
       (refine Q6 rfl ?_ ?_ ?_ ?_<;>(try simp only[go_sem,Yd,Vr,Y0,Q4 (n:=(m:Int)+1) (by omega) (by omega)])<;>(try simp only[Qz,Qw,Qv]))
      .have em':((m:Int)=(r:Int))=False:=Ql (by omega)
       have MW:tr3 S r c m m c=S.a m c:=by unfold tr3;rw[Qb em,Qb (wa8 _)]
       rw[MW]at cm;have So:=Ej m c Xp hc;have sg:=ze9 (S.a m c) (by omega);have MY:(S.a m c).num.sign=0↔S.a m c=0:=by rw[wbR,wdr]
       simp only[go_sem,em',MW];refine Q2 sg rfl ?_;by_cases ez:S.a m c=0
       .have ez':((S.a m c).num.sign=0)=True:=Qh (MY.2 ez)
        have Wb:∀ {H:QE},AtS H 1000000 (waS S (tr3 S r c m))->AtS H 1000000 (waS S (tr3 S r c (m+1))):=fun h =>
         AtS.same h fun i _ k _=>by
          unfold tr3;by_cases ei:i=r
          .rw[Qc ei,Qc ei]
          .rw[Qb ei,Qb ei]
           by_cases e3:i<m
           .rw[Qc e3,Qc (by omega)]
           .rw[Qb e3]
            by_cases e4:i=m
            .rw[Qc (by omega),zxg (by rw[e4];exact ez) ei]
            .rw[Qb (by omega)]
        simp only[go_sem,ez'];refine⟨m+1,Xp,(by show S.R-(m+1)<S.R-m;omega),?_⟩
        (refine Q6 rfl ?_ ?_ ?_ ?_<;>(try simp only[go_sem,Yd,Vr,Q4 (n:=(m:Int)+1) (by omega) (by omega)])<;>(try simp only[Qz,Qw,Qv]))
        exact Wb (by simp only[go_sem])
       .have ez':((S.a m c).num.sign=0)=False:=Ql (fun h=>ez (MY.1 h))
        have kr3:=kf (a:=tr3 S r c m) hr;have Vu:(r<S.R)=True:=Qh hr;simp only[go_sem,ez',hR,g3,ar,Xj]
        (repeat(refine Qg (by omega) ?_))
        refine QJ (fun j:Nat=>stL 151 [(0,.one (.ptr 1000000 0)),(1,litI .i64 r),(2,litI .i64 c),(10,.one (.vec (1000100+m) 3 0 S.n)),(11,.one (.ptr 11 0)),(68,.one (.vec 1000003 1 0 S.R)),(69,litI .i64 S.R),(70,litI .i64 m),(93,.one (.vec (1000100+r) 3 0 S.n)),(94,litI .i64 S.n),(95,litI .i64 j)]
         (Z6 1000000 (waS S (tr4 S r c m j)) [(11,(cR (S.a m c)).map .t)])) (fun j=>j<=S.n) (fun j=>S.n-j) 0 ?_ (Qk _) ?_
        .rw[zvF]
         (refine Q6 rfl ?_ ?_ ?_ ?_<;>(try simp only[go_sem,QL,Yd,zaN,Vr,ctm,ctr])<;>(try simp only[Qz,Qw,Qx,Qv]))
        .intro j hj
         simp only[go_sem];refine QI (fun VK=>?_) (fun LD=>?_)
         .have XQ:j<S.n:=by omega
          have kj:=kf (a:=tr4 S r c m j) hr;have kmj:=kf (a:=tr4 S r c m j) Xp;have cj:=ca (g:=tr4 S r c m j r) XQ;rw[zzr]at cj;have cmj:=ca (g:=tr4 S r c m j m) XQ;have Sq:tr4 S r c m j m j=S.a m j:=by unfold tr4;rw[Qb em,Qb (wa8 _),Qb (fun h=>wa8 _ h.2)]
          rw[Sq]at cmj;have lx:=zxi Db (Ej r j hr XQ);have lf:=zfn (S.a m c) (S.trow r c j);have lmj:=Ej m j Xp XQ;have o1:=zgt (S.a m c) (S.trow r c j) (by omega) (by omega);have sx:=ze9 (S.trow r c j) (by omega);have MZ:(S.trow r c j).num.sign=0↔S.trow r c j=0:=by rw[wbR,wdr]
          have Vj:∀ {H:QE},AtS H 1000000 (waS S (tr4 S r c m j))->AtS (upd H (1000100+m) (some (Q5 cR (fnG S.n fun v=>if v=j then S.ta r c m j else tr4 S r c m j m v)))) 1000000 (waS S (tr4 S r c m (j+1))):=fun h =>
           AtS.row' (b:=1000000) h Xp _ fun i _ k _=>by
            unfold tr4;by_cases ei:i=r
            .rw[Qc ei,Qb (by omega),Qc ei]
            .rw[Qb ei,Qb ei]
             by_cases e3:i<m
             .rw[Qc e3,Qb (by omega),Qc e3]
             .rw[Qb e3,Qb e3]
              by_cases e4:i=m
              .rw[Qc e4]
               by_cases ek:k=j
               .rw[Qc ⟨e4,by omega⟩,Qc ek,e4,ek]
               .rw[Qb ek,Qb em,Qb (wa8 _)]
                by_cases e5:k<j
                .rw[Qc ⟨e4,by omega⟩,Qc ⟨rfl,e5⟩,e4]
                .rw[Qb (fun h=>by omega),Qb (fun h=>e5 h.2),e4]
              .rw[Qb (fun h=>e4 h.1),Qb e4,Qb (fun h=>e4 h.1)]
          have Lw:j=c->S.a m c*S.trow r c j=S.ta r c m j:=fun e=>by unfold SX.ta;rw[Qb em,Qc e,e]
          have Ek:j≠c->S.a m j+S.a m c*S.trow r c j=S.ta r c m j:=fun e=>by unfold SX.ta;rw[Qb em,Qb e]
          simp only[go_sem,kj,cj,VK,QL]
          (repeat(refine Qg (by omega) ?_))
          by_cases ec:j=c
          .have ec':((j:Int)=(c:Int))=True:=Qh (by omega)
           rw[Lw ec]at o1;have sd:=zdo (n:=S.n) (g:=tr4 S r c m j m) XQ (q:=S.ta r c m j);simp only[go_sem,ec',QL];refine Q2 o1 rfl ?_;simp only[go_sem,kmj,lnL,VK,zac]
           (repeat(refine Qg (by omega) ?_))
           refine⟨j+1,XQ,(by show S.n-(j+1)<S.n-j;omega),?_⟩
           (refine Q6 rfl ?_ ?_ ?_ ?_<;>(try simp only[go_sem,QL,zaN,Vr,ctm,ctr,zab,sd,Q4 (n:=(j:Int)+1) (by omega) (by omega)])<;>(try simp only[Qz,Qw,Qx,Qv]))
           exact Vj (by simp only[go_sem,Yd])
          .have ec':((j:Int)=(c:Int))=False:=Ql (by omega)
           simp only[go_sem,ec',QL];refine Q2 sx rfl ?_;by_cases ex:S.trow r c j=0
           .have ex':((S.trow r c j).num.sign=0)=True:=Qh (MZ.2 ex)
            have Wb:∀ {H:QE},AtS H 1000000 (waS S (tr4 S r c m j))->AtS H 1000000 (waS S (tr4 S r c m (j+1))):=fun h =>
             AtS.same h fun i _ k _=>by
              unfold tr4;by_cases ei:i=r
              .rw[Qc ei,Qc ei]
              .rw[Qb ei,Qb ei]
               by_cases e3:i<m
               .rw[Qc e3,Qc e3]
               .rw[Qb e3,Qb e3]
                by_cases e4:i=m/\k<j
                .rw[Qc e4,Qc ⟨e4.1,by omega⟩]
                .rw[Qb e4]
                 by_cases e5:i=m/\k=j
                 .rw[Qc ⟨e5.1,by omega⟩,e5.1,e5.2,<-Ek ec,ex,wct,wc5]
                 .rw[Qb (fun h=>by omega)]
            simp only[go_sem,ex'];refine⟨j+1,XQ,(by show S.n-(j+1)<S.n-j;omega),?_⟩
            (refine Q6 rfl ?_ ?_ ?_ ?_<;>(try simp only[go_sem,QL,Yd,zaN,Vr,ctm,ctr,Q4 (n:=(j:Int)+1) (by omega) (by omega)])<;>(try simp only[Qz,Qw,Qx,Qv]))
            exact Wb (by simp only[go_sem])
           .have ex':((S.trow r c j).num.sign=0)=False:=Ql (fun h=>ex (MZ.1 h))
            have o2:=zgE (S.a m j) (S.a m c*S.trow r c j) (by omega) (by omega);rw[Ek ec]at o2;have sd:=zdo (n:=S.n) (g:=tr4 S r c m j m) XQ (q:=S.ta r c m j);simp only[go_sem,ex'];refine Q3 0 rfl ?_;simp only[go_sem,kmj,cmj,VK,QL,zac]
            (repeat(refine Qg (by omega) ?_))
            ((repeat(refine Q3 0 rfl ?_;simp only[go_sem,QL,zac,zab]));refine Q2 (o1) rfl ?_;simp only[go_sem];(repeat(refine Q3 0 rfl ?_;simp only[go_sem,QL,zac,zab]));refine Q2 (o2) rfl ?_;simp only[go_sem,zac];(repeat(refine Q3 0 rfl ?_;simp only[go_sem,QL,zac,zab])));simp only[go_sem,lnL,VK,NW]
            (repeat(refine Qg (by omega) ?_))
            refine⟨j+1,XQ,(by show S.n-(j+1)<S.n-j;omega),?_⟩
            (refine Q6 rfl ?_ ?_ ?_ ?_<;>(try simp only[go_sem,QL,zaN,Vr,ctm,ctr,zab,sd,Q4 (n:=(j:Int)+1) (by omega) (by omega)])<;>(try simp only[Qz,Qw,Qx,Qv]))
            exact Vj (by simp only[go_sem,Yd])
         .obtain rfl:j=S.n:=by omega
          have Wb:∀ {H:QE},AtS H 1000000 (waS S (tr4 S r c m S.n))->AtS H 1000000 (waS S (tr3 S r c (m+1))):=fun h =>
           AtS.same h fun i _ k hk=>(zxh hk em).symm
          simp only[go_sem];refine⟨m+1,Xp,(by show S.R-(m+1)<S.R-m;omega),?_⟩
          (refine Q6 rfl ?_ ?_ ?_ ?_<;>(try simp only[go_sem,Vr,Q4 (n:=(m:Int)+1) (by omega) (by omega)])<;>(try simp only[Qz,Qw,Qv]))
          exact Wb (by simp only[go_sem])
     .obtain rfl:m=S.R:=by omega
      have g1:=zdj (b:=1000001) (sz:=1) (g:=S.rw) hR;have g2:=zdj (b:=1000002) (sz:=1) (g:=S.cl) hn;have i1:=Z4 (f:=cI1) (sz:=1) (g:=S.rw) (n:=S.R) (i:=r) Ya hr;have i2:=Z4 (f:=cI1) (sz:=1) (g:=S.cl) (n:=S.n) (i:=c) Ya hc;rw[wai]at i1 i2;have e1:∀ {g:Nat->Nat},(Q5 cI1 (fnG S.R g)).length=S.R:=by intro g;rw[zbB Ya,wai]
      have e2:∀ {g:Nat->Nat},(Q5 cI1 (fnG S.n g)).length=S.n:=by intro g;rw[zbB Ya,wai]
      have s1:=zrv (g:=S.rw) hr (y:=S.cl c);have s2:=zrv (g:=S.cl) hc (y:=S.rw r);simp only[go_sem];refine Q3 0 rfl ?_;simp only[go_sem,hR,hn,g1,g2,i1,i2,Xj,J7]
      (repeat(refine Qg (by omega) ?_))
      simp only[go_sem,e1,e2,s1,s2]
      (repeat(refine Qg (by omega) ?_))
      exact zgI (.inl rfl) (zvG hR hn fun i hi k _=>by
       unfold tr3;by_cases ei:i=r
       .rw[Qc ei];unfold SX.ta;rw[Qc ei]
       .rw[Qb ei,Qc hi])
abbrev wvS(S:SX)(va:Nat->Rat):SX:=⟨S.n,S.R,S.rw,S.cl,S.a,va,S.mo⟩
theorem AtS.va'{H:QE}{b:Nat}{S:SX}{va:Nat->Rat}(h:AtS H b (wvS S va))(va':Nat->Rat):AtS (upd H (b+5) (some (Q5 cR (fnG (S.n+S.R) va')))) b (wvS S va'):=AtS.va h va'
theorem xS_5{S:SX}(h:xS S 1000005=none):False:=by
 have:xS S (PIN+5)=none:=h;rw[zbD,ZT,Qb (by omega),Qb (by omega),Qb (by omega),Qb (by omega),Qb (by omega),Qb (by omega),Qc rfl]at this;cases this
theorem zsK{S' S0:SX}(hn:S'.n=S0.n)(hR:S'.R=S0.R){H:QE}(hH:∀ b,PIN<=b->H b≠none->xS S0 b≠none):∀ b,PIN<=b->(Q9 (Zs PIN S') b).or (H b)=xS S' b:=fun b hb=>by
 rw[zbD];cases hx:Q9 (Zs PIN S') b with
 |some cs=>rfl
 |none =>
  show H b=none;refine waF fun hne=>hH b hb hne ?_
  exact(zfj hn hR b).1 (by rw[zbD];exact hx)
theorem zuF{A:Nat->Nat->Rat}{n R:Nat}(S:SX)(hI:InvX A n R S)(r c:Nat){K:Nat}(hK:K<=400000000)(hB:BdX K S)(hr:r<S.R)(hc:c<S.n)(K9:S.n<=S.rw r) :
  Ze prog 61 [.one (.ptr PIN 0),litI .i64 r,litI .i64 c] (xS S) (.tup []) (xS (S.piv r c)):=by
 have Xk:=hB.dim;refine zaq QB call61 func61 rfl ntmps61 results61 (by simp) (by decide) ?_ ?_ ?_ ?_ ?_
 .exact zeu _
 .exact zfj rfl rfl
 .exact zd0 _
 .trivial
 .have hR:S.R≠0:=by omega
  have hn:S.n≠0:=by omega
  have Vr:(S.R==0)=false:=beq_false_of_ne hR;have Xu:(S.n==0)=false:=beq_false_of_ne hn;have Xj:((r:Int)<(S.R:Int))=True:=Qh (by omega);have J7:((c:Int)<(S.n:Int))=True:=Qh (by omega);have g1:=zdj (b:=1000001) (sz:=1) (g:=S.rw) hR;have g2:=zdj (b:=1000002) (sz:=1) (g:=S.cl) hn;have g4:=zdj (b:=1000004) (sz:=3) (g:=S.mo) hR;have g3:cvC 1000003 S.R = .vec 1000003 1 0 S.R:=zgv hR;have i1:∀ {i},i<S.R->(Q5 cI1 (fnG S.R S.rw)).drop i=(cI1 (S.rw i)).map .t++Q5 cI1 ((fnG S.R S.rw).drop (i+1)):=fun {i} hi=>by
   have:=Z4 (f:=cI1) (sz:=1) (g:=S.rw) (n:=S.R) (i:=i) Ya hi;rwa[wai]at this
  have i2:=Z4 (f:=cI1) (sz:=1) (g:=S.cl) (n:=S.n) (i:=c) Ya hc;rw[wai]at i2;have e1:∀ {g:Nat->Nat},(Q5 cI1 (fnG S.R g)).length=S.R:=by intro g;rw[zbB Ya,wai]
  have e2:∀ {g:Nat->Nat},(Q5 cI1 (fnG S.n g)).length=S.n:=by intro g;rw[zbB Ya,wai]
  have a3:∀ {i},i<S.R->(rowsC 1000100 3 S.n S.R).drop i = .vec (1000100+i) 3 0 S.n::(rowsC 1000100 3 S.n S.R).drop (i+1):=fun h=>zcy h
  have YG:=zbk (b:=1000100) (sz:=3) (len:=S.n) (n:=S.R);have kf:∀ {va:Nat->Rat} {i:Nat},i<S.R->∀ e,Q9 (Z6 1000000 (wvS S va) e) (1000100+i)=some (Q5 cR (fnG S.n (S.a i))):=fun {va i} hi e=>by
   rw[show(1000100:Nat)=1000000+100 from rfl,zjV,Qc (show i<(wvS S va).R from hi)]
  have ca:∀ {g:Nat->Rat} {j:Nat},j<S.n->(Q5 cR (fnG S.n g)).drop (j*3)=(cR (g j)).map .t++Q5 cR ((fnG S.n g).drop (j+1)):=fun h=>Z4 zat h
  have cv:∀ {g:Nat->Rat} {j:Nat},j<S.n+S.R->(Q5 cR (fnG (S.n+S.R) g)).drop (j*3)=(cR (g j)).map .t++Q5 cR ((fnG (S.n+S.R) g).drop (j+1)):=fun h=>Z4 zat h
  have cm:∀ {g:Nat->Rat} {j:Nat},j<S.R->(Q5 cR (fnG S.R g)).drop (j*3)=(cR (g j)).map .t++Q5 cR ((fnG S.R g).drop (j+1)):=fun h=>Z4 zat h
  have lnN:∀ {g:Nat->Rat},(Q5 cR (fnG S.n g)).length=S.n*3:=zgg;have lnR:∀ {g:Nat->Rat},(Q5 cR (fnG S.R g)).length=S.R*3:=zgg;have lnV:∀ {g:Nat->Rat},(Q5 cR (fnG (S.n+S.R) g)).length=(S.n+S.R)*3:=zgg;have EA:=hB.rw r hr;have Da:=hB.cl c hc;have Db:=hB.a r c hr hc;have KC:=hB.ov EA;have Y3:=zjy (S.a r c);have lby:lQ (S.by' r c)<=3*K+1:=by
   unfold SX.by';have:=zfn (-(S.ov (S.rw r))) (S.a r c)⁻¹;rw[zfm]at this;omega
  have rd:=fun {H} hH=>zlE S (S.rw r) (K:=K) (by omega) hB EA 1000000 (H:=H) hH
  have o1:=zhw (S.ov (S.rw r)) (by omega);have o2:=zl9 (S.a r c) (by omega);have o3:=zgt (-(S.ov (S.rw r))) (S.a r c)⁻¹ (by rw[zfm];omega) (by omega);have eby : -(S.ov (S.rw r))*(S.a r c)⁻¹=S.by' r c:=rfl;rw[eby]at o3;have xw:xS S=Q9 (Z6 1000000 (wvS S S.va) []):=rfl;rw[xw];have ir:=i1 hr;have ar:=a3 hr;have kr:=kf (va:=S.va) hr;have cr:=ca (g:=S.a r) hc;have Vu:(r<S.R)=True:=Qh hr;simp only[go_sem,PIN];refine Q3 0 rfl ?_;simp only[go_sem,hR,hn,g1,g2,ir,i2,Xj,J7]
  (repeat(refine Qg (by omega) ?_))
  refine Q3 3 rfl ?_;simp only[go_sem];refine zht (rd (by simp only[go_sem])) ?_;simp only[go_sem];refine Q2 o1 rfl ?_;simp only[go_sem,hR,g3,ar,Xj,kr,cr,J7]
  (repeat(refine Qg (by omega) ?_))
  refine Q2 o2 rfl ?_;simp only[go_sem];refine Q2 o3 rfl ?_;simp only[go_sem,QL];obtain⟨y,hy⟩:∃ y,y=S.cl c:=⟨_,rfl⟩
  rw[<-hy]at Da;have LP:((y:Int)<((S.n+S.R:Nat):Int))=True:=Qh (by omega);have Dc:((y:Int)<(S.n:Int)+(S.R:Int))=True:=Qh (by omega);have cvy:=cv (g:=S.va) Da;have lvy:=hB.va y Da;have o4:=zgE (S.va y) (S.by' r c) (by omega) (by omega);have sd0:=zdo (n:=S.n+S.R) (g:=S.va) Da (q:=S.va y+S.by' r c);have h0:(fun v=>if v=y then S.va y+S.by' r c else S.va v)=S.vrow r c 0:=by
   funext v;show _=if v=S.cl c then S.va v+S.by' r c else S.va v
   rw[hy];by_cases e:v=S.cl c
   .rw[Qc e,Qc e,e]
   .rw[Qb e,Qb e]
  rw[h0]at sd0;rw[<-hy];refine Q3 0 rfl ?_;simp only[go_sem,QL,LP,cvy]
  (repeat(refine Qg (by omega) ?_))
  ((repeat(refine Q3 0 rfl ?_;simp only[go_sem,QL]));refine Q2 (o4) rfl ?_;simp only[go_sem];(repeat(refine Q3 0 rfl ?_;simp only[go_sem,QL])));simp only[go_sem,LP,lnV];refine⟨by omega,by omega,?_⟩;have Gq:=hI.en;have SA:=hI.eR;have FY:∀ i,i<S.R->i≠r->S.vrow r c i (S.rw i)=S.va (S.rw i):=fun i hi EB=>by
   have:=(zjw hI (r:=r) (c:=c) (by omega) (by omega) i (by omega)).2.2.1 i (by omega) EB;rw[Qb (wa8 _)]at this;exact this
  refine QJ (fun i:Nat=>stL 125 [(0,.one (.ptr 1000000 0)),(1,litI .i64 r),(2,litI .i64 c),(6,litI .i64 (S.rw r)),(8,.one (.ptr 8 0)),(63,.one (.vec 1000001 1 0 S.R)),(64,litI .i64 S.R),(65,litI .i64 i)]
   (Z6 1000000 (wvS S (S.vrow r c i)) [(8,(cR (S.by' r c)).map .t)])) (fun i=>i<=S.R) (fun i=>S.R-i) 0 ?_ (Qk _) ?_
  ·(refine Q6 rfl ?_ ?_ ?_ ?_<;>(try simp only[go_sem,QL,zaN,Vr,g1,sd0])<;>(try simp only[Qz,Qw,Qx,Qv]))
   exact AtS.va' (b:=1000000) (va:=S.va) (by simp only[go_sem,Yd]) _
  .intro i hi
   simp only[go_sem];refine QI (fun Y1=>?_) (fun YI=>?_)
   .have Yz:i<S.R:=by omega
    have ii:=i1 Yz;have ai:=a3 Yz;have OE:(i<S.R)=True:=Qh Yz;simp only[go_sem,hR,ii,Y1]
    (repeat(refine Qg (by omega) ?_))
    by_cases e:i=r
    .have e':((i:Int)=(r:Int))=True:=Qh (by omega)
     have Y0:S.vrow r c (i+1)=S.vrow r c i:=by show(if i=r then _ else _)=_;rw[Qc e]
     simp only[go_sem,e'];refine⟨i+1,Yz,(by show S.R-(i+1)<S.R-i;omega),?_⟩
     (refine Q6 rfl ?_ ?_ ?_ ?_<;>(try simp only[go_sem,QL,zaN,Vr,Y0,Q4 (n:=(i:Int)+1) (by omega) (by omega)])<;>(try simp only[Qz,Qw,Qx,Qv]))
    .have e':((i:Int)=(r:Int))=False:=Ql (by omega)
     have Y0:S.vrow r c (i+1)=fun v=>if v=S.rw i then S.vrow r c i v+S.a i c*S.by' r c else S.vrow r c i v:=by show(if i=r then _ else _)=_;rw[Qb e]
     have EC:=hB.rw i Yz;obtain⟨v,hv⟩:∃ v,v=S.rw i:=⟨_,rfl⟩
     have YJ:=FY i Yz e;rw[<-hv]at EC YJ Y0;have LQ:((v:Int)<(S.n:Int)+(S.R:Int))=True:=Qh (by omega);have Vn:((0:Int)<=(v:Int))=True:=Qh (by omega);have kri:=kf (va:=S.vrow r c i) Yz;have cri:=ca (g:=S.a i) hc;have cvi:=cv (g:=S.vrow r c i) EC;rw[YJ]at cvi;have la:=hB.a i c Yz hc;have lv:=hB.va v EC;have lm:=zfn (S.a i c) (S.by' r c);have o5:=zgt (S.a i c) (S.by' r c) (by omega) (by omega);have o6:=zgE (S.va v) (S.a i c*S.by' r c) (by omega) (by omega);have sd:=zdo (n:=S.n+S.R) (g:=S.vrow r c i) EC (q:=S.va v+S.a i c*S.by' r c);have JK:(fun u=>if u=v then S.va v+S.a i c*S.by' r c else S.vrow r c i u)=S.vrow r c (i+1):=by
      rw[Y0];funext u;by_cases eu:u=v
      .rw[Qc eu,Qc eu,eu,YJ]
      .rw[Qb eu,Qb eu]
     rw[JK]at sd;simp only[go_sem,e'];rw[<-hv];refine Q3 0 rfl ?_;simp only[go_sem,hR,g3,ai,Y1,kri,cri,J7,cvi,Vn,QL]
     (repeat(refine Qg (by omega) ?_))
     ((repeat(refine Q3 0 rfl ?_;simp only[go_sem,QL]));refine Q2 (o5) rfl ?_;simp only[go_sem];(repeat(refine Q3 0 rfl ?_;simp only[go_sem,QL]));refine Q2 (o6) rfl ?_;simp only[go_sem];(repeat(refine Q3 0 rfl ?_;simp only[go_sem,QL])));simp only[go_sem,Vn,lnV]
     (repeat(refine Qg (by omega) ?_))
     refine⟨i+1,Yz,(by show S.R-(i+1)<S.R-i;omega),?_⟩
     (refine Q6 rfl ?_ ?_ ?_ ?_<;>(try simp only[go_sem,QL,zaN,Vr,sd,Q4 (n:=(i:Int)+1) (by omega) (by omega)])<;>(try simp only[Qz,Qw,Qx,Qv]))
     exact AtS.va' (b:=1000000) (va:=S.vrow r c i) (by simp only[go_sem]) _
   .obtain rfl:i=S.R:=by omega
    obtain⟨x,hx⟩:∃ x,x=S.rw r:=⟨_,rfl⟩
    obtain⟨j0,KJ⟩:∃ j,j=x-S.n:=⟨_,rfl⟩
    rw[<-hx]at EA K9;have Nf:IntKind.i64.wrap ((x:Int)-(S.n:Int))=(j0:Int):=by rw[Q4 (by omega) (by omega)];omega
    have JJ:((j0:Int)<(S.R:Int))=True:=Qh (by omega);have X7:((0:Int)<=(j0:Int))=True:=Qh (by omega);have LS:((x:Int)<(S.n:Int)+(S.R:Int))=True:=Qh (by omega);have WR:((0:Int)<=(x:Int))=True:=Qh (by omega);have cmj:=cm (g:=S.mo) (j:=j0) (by omega);have sd:=zdo (n:=S.n+S.R) (g:=S.vrow r c S.R) EA (q:=S.mo j0);have JK:(fun u=>if u=x then S.mo j0 else S.vrow r c S.R u)=S.tva r c:=by
     funext u;show _=if u=S.rw r then S.mo (S.rw r-S.n)else S.vrow r c S.R u
     rw[<-hx,<-KJ]
    rw[JK]at sd;have tu:=zyx (wvS S (S.tva r c)) r c hK Xk hB.a hr hc;simp only[go_sem];rw[<-hx];refine Q3 0 rfl ?_;simp only[go_sem,hR,g4,cmj,Nf,JJ,X7,WR]
    (repeat(refine Qg (by omega) ?_))
    simp only[go_sem,lnV,sd]
    (repeat(refine Qg (by omega) ?_))
    refine zou (S:=wvS S (S.tva r c)) (S':=S.piv r c) 1000000 (.inr rfl) tu rfl rfl rfl (Qs.2 ⟨zfI,Qs.2 ⟨trivial,Qs.2 ⟨trivial,fun x hx=>by cases hx⟩⟩⟩) ?_ ?_
    .exact AtS.va' (b:=1000000) (va:=S.vrow r c S.R) (S:=S) (by simp only[go_sem]) (S.tva r c)
    .simp only[go_sem]
     refine zgI (.inl rfl) (zsK (S':=S.piv r c) (S0:=wvS S (S.vrow r c S.R)) rfl rfl (H:=upd (Q9 (Z6 1000000 (wvS S (S.vrow r c S.R)) [(8,(cR (S.by' r c)).map .t)])) 1000005 (some (Q5 cR (fnG (S.n+S.R) (S.tva r c))))) fun b hb hne=>?_);intro X8;apply hne;show upd (Q9 (Z6 1000000 (wvS S (S.vrow r c S.R)) [(8,_)])) 1000005 _ b=none;rw[zaG,Qb (fun e=>xS_5 (e▸X8)),zpf (by intro k hk;simp at hk;subst hk;decide) hb];exact X8
end Go.Proofs.YtlgjjcmljmjenaaGreat
