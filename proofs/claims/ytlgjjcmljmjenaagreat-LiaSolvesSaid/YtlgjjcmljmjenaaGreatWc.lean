/- At every input the call answers true and leaves its arguments as they were; no conditions. -/
import Derived.Test.YtlgjjcmljmjenaaGreatWb
import Derived.Test.YtlgjjcmljmjenaaGreatUc
set_option linter.unusedSimpArgs false
set_option linter.unusedVariables false
set_option maxRecDepth 100000
set_option maxHeartbeats 64000000
namespace Go.Proofs.YtlgjjcmljmjenaaGreat
open Go Go.Abs Go.Proofs.Tryz
@[go_sem] theorem zAQ{b s o n:Nat}:zaR .neq (.one (.vec b s o n)) (.one (.t (.seq (some true) [])))=some (QO true):=rfl
@[go_sem] theorem zBK{P:Program}{t:TypeId}{b s o n:Nat}:zcT P t (.one (.vec b s o n))=(tok P t=true/\isSliceD (tdesc P t)=true):=rfl
def zdp(n:Nat):Option (Nat->Int)->List (Nat×List Go.Abs.C)
 |some p=>[(900000,Q5 cJ (fnG n p))]
 |none=>[]
def zh1(n:Nat):Option (Nat->Int)->AV
 |some _=>.one (.vec 900000 2 0 n)
 |none=>.one (.t (.seq (some true) []))
def solA(n:Nat)(o:Option (Nat->Int)):AV:=.tup [zh1 n o,QO o.isSome]
def zbE(ls:List Fm)(n B:Nat)(o:Option (Nat->Int)):Prop:=match o with
 |some p=>Sat ls p/\∀ v,v<n->lN (p v)<=B
 |none=>∀ p,¬Sat ls p
theorem zcu{n:Nat}{o:Option (Nat->Int)}(b:Nat)(h:QB (zdp n o) b≠none):b=900000:=by
 cases o with
 |none=>exact(h rfl).elim
 |some p =>
  have h:(if b=900000 then some (Q5 cJ (fnG n p))else none)≠none:=h;split at h
  .assumption
  .exact(h rfl).elim
theorem zby{n:Nat}{o:Option (Nat->Int)}(b:Nat)(cs:List Go.Abs.C)(h:QB (zdp n o) b=some cs):∀ c∈cs,inC (QB (zdp n o)) c:=by
 cases o with
 |none=>cases h
 |some p =>
  have h:(if b=900000 then some (Q5 cJ (fnG n p))else none)=some cs:=h;split at h
  .cases h
   intro c hc;unfold Q5 at hc;obtain⟨t,_,rfl⟩:=Qp.1 hc;trivial
  .cases h
theorem ze8{n:Nat}{o:Option (Nat->Int)}{b:Bool}:inA (QB (zdp n o)) (.tup [zh1 n o,QO b]):=by
 refine⟨?_,trivial,trivial⟩;cases o with
 |none=>trivial
 |some p =>
  show(if 900000=900000 then some (Q5 cJ (fnG n p))else none)≠none;simp
def brF(v:Nat)(k:Int):Fm:=QP (QP ([],0) (scF (Z7 v) 1)) (scF (Ze k) (-1))
theorem zyc(v:Nat)(k:Int)(p:Nat->Int):atF (brF v k) p=p v-k:=by
 unfold brF;rw[zdR,zdR,zcQ,zcQ,zqi,zfX];have:atF (([]:List Mn),(0:Int)) p=0:=rfl;rw[this];omega
theorem zyd{n v:Nat}(hv:v<n){k:Int}{V:Nat}(hk:lN k<=V):Fv n 6 (V+4) (brF v k):=by
 have l1:=zcL;have l2:lN (-1)<=1:=by rw[Zs];exact l1
 have a:=(Fv.zero (n:=n) (C:=0) (K:=0)).add ((Fv.var hv).sc (c:=1) l1) (D:=3) (E:=2) (by omega) (by omega);exact a.add ((Fv.const (n:=n) (C:=0) hk).sc (c:=-1) l2) (by omega) (by omega)
theorem Fv.neg{n C K:Nat}{f:Fm}(h:Fv n C K f):Fv n (C+2) (K+3) (zcX f):=by
 have l1:=zcL;have l2:lN (-1)<=1:=by rw[Zs];exact l1
 exact(Fv.const (n:=n) (C:=0) (K:=1) l1).add (h.sc (c:=-1) l2) (by omega) (by omega)
def brT(ls:List Fm)(n B:Nat)(o:Option (Nat->Int))(kn:Bool):Prop:=match o with
 |some p=>kn=true/\Sat ls p/\∀ v,v<n->lN (p v)<=B
 |none=>kn=true->∀ p,¬Sat ls p
def zgH(ls:List Fm)(n B l:Nat):Prop:=∃ (o:Option (Nat->Int)) (kn:Bool) (l':Nat),l'<=l/\brT ls n B o kn /\
 zhI prog 53 [.agg ((sS ls n).map .t),.one (.ptr PIN 0)] [.lit (.int .i64 (l:Int))] [.lit (.int .i64 (l':Int))] (QB (zdp n o)) (.tup [zh1 n o,QO kn])
theorem den1{q:Rat}(h:q.den=1):q=((q.num:Int):Rat):=by
 apply Rat.ext<;>simp[h]
theorem zuT(x:List Rat):(∃ k:Nat,∃ hk:k<x.length,¬x[k].den=1/\∀ q∈x.take k,q.den=1)\/∀ q∈x,q.den=1:=by
 cases h:x.any fun q=>decide (¬q.den=1)with
 |true =>
  obtain⟨k,hk,h1,h2⟩:=zmp _ x h;exact .inl ⟨k,hk,of_decide_eq_true h1,fun q hq=>waD fun c=>by have:=h2 q hq;rw[waA c]at this;cases this⟩
 |false=>exact .inr fun q hq=>waD fun c=>List.any_eq_false.1 h q hq (waA c)
theorem zgr{ls:List Fm}{n l:Nat}:∀ x∈[AV.agg ((sS ls n).map Go.Abs.C.t),AV.one (.ptr PIN 0)],inA (Ym [.lit (.int .i64 (l:Int))]) x :=
 Q2.2 ⟨(fun c hc=>by obtain⟨t,_,rfl⟩:=Qp.1 hc;trivial),Q2.2 ⟨(by show(if PIN=PIN then some _ else none)≠none;simp),fun x hx=>by cases hx⟩⟩
theorem zfm{P:Program}{c1:List Go.Abs.T}{Y:QD}{x y:AV}{σ:St}(h4:σ.s 4=x)(h5:σ.s 5=y)(hP:σ.H PIN=some (c1.map .t))(hX:∀ b cs,Y b=some cs->σ.H b=some cs):zro P [.tmp 4,.tmp 5] c1 Y (.tup [x,y]) .ret σ :=
 ⟨.inr rfl,(fun x hx=>by
  rcases wab.1 hx with rfl|hx
  .trivial
  .obtain rfl:=Qr.1 hx;trivial),by rw[<-h4,<-h5];rfl,hP,hX⟩
theorem zcI{n:Nat}{o:Option (Nat->Int)}{σ:St}(h:∀ p,o=some p->σ.H 900000=some (Q5 cJ (fnG n p))):∀ b cs,QB (zdp n o) b=some cs->σ.H b=some cs:=fun b cs hb=>by
 obtain rfl:=zcu b (by rw[hb];simp);cases o with
 |none=>cases hb
 |some p =>
  have hb:some (Q5 cJ (fnG n p))=some cs:=hb;rw[<-hb];exact h p rfl
theorem zsM(ls:List Fm)(n B:Nat):zgH ls n B 0:=by
 refine⟨none,false,0,Qd _,(fun h=>by cases h),?_⟩;refine zfL QC call53 func53 rfl ntmps53 results53 (by simp) (by decide) ?_ ?_ ?_ ?_ ?_
 .exact zgr
 .intro b hb;have:=zcu b hb;show b<1000000;omega
 .exact zby
 .exact ze8
 .simp only[go_sem,PIN,Ym]
  exact zfm rfl rfl rfl (fun b cs hb=>by cases hb)
theorem zkM{m:Nat}{ys:List AV}{ls:List Fm}{n l l':Nat}{p:Nat->Int}{kn:Bool}{σ:St}{K:AV->St->Prop}(L:Nat)(hm:m=1\/m=2)
  (h:zhI prog 53 [.agg ((sS ls n).map .t),.one (.ptr PIN 0)] [.lit (.int .i64 (l:Int))] [.lit (.int .i64 (l':Int))] (QB (zdp n (some p))) (.tup [zh1 n (some p),QO kn])) (YY:ys=[.agg ((sS ls n).map .t),.one (.ptr L 0)])
  (hL:σ.H L=some [.t (.lit (.int .i64 (l:Int)))]) (hn:σ.H 900000=none) (hne:L≠900000) (hK:K (.tup [.one (.vec 900000 2 0 n),QO kn]) (σ.withH (upd (upd σ.H L (some [.t (.lit (.int .i64 (l':Int)))])) 900000 (some (Q5 cJ (fnG n p)))))):ZK prog m 53 ys σ K:=by
 refine zpp L id hm h (by rw[YY];rfl) hL (fun b hb=>?_) (fun b b' _ _ e=>e) (H':=upd (upd σ.H L (some [.t (.lit (.int .i64 (l':Int)))])) 900000 (some (Q5 cJ (fnG n p)))) ?_ (fun b cs hb=>?_) (fun x hx hb=>?_) hK
 .obtain rfl:=zcu b hb
  exact⟨hn,by decide⟩
 .show(if L=900000 then _ else if L=L then _ else _)=_
  rw[Qb hne,Qc rfl];rfl
 .obtain rfl:=zcu b (by rw[hb];simp)
  have hb:some (Q5 cJ (fnG n p))=some cs:=hb;cases hb
  show some _=_;rw[wau (g:=id) fun c _=>znS c,wb0]
 .have:x≠900000:=fun e=>hb 900000 (by show(if 900000=900000 then _ else _)≠none;simp) e.symm
  show(if x=900000 then _ else if x=L then _ else _)=_;rw[Qb this,Qb hx]
theorem zg7{m:Nat}{ys:List AV}{ls:List Fm}{n l l':Nat}{kn:Bool}{σ:St}{K:AV->St->Prop}(L:Nat)(hm:m=1\/m=2)
  (h:zhI prog 53 [.agg ((sS ls n).map .t),.one (.ptr PIN 0)] [.lit (.int .i64 (l:Int))] [.lit (.int .i64 (l':Int))] (QB (zdp n none)) (.tup [zh1 n none,QO kn])) (YY:ys=[.agg ((sS ls n).map .t),.one (.ptr L 0)])
  (hL:σ.H L=some [.t (.lit (.int .i64 (l:Int)))]) (hK:K (.tup [.one (.t (.seq (some true) [])),QO kn]) (σ.withH (upd σ.H L (some [.t (.lit (.int .i64 (l':Int)))])))):ZK prog m 53 ys σ K:=by
 refine zpp L id hm h (by rw[YY];rfl) hL (fun b hb=>(hb rfl).elim) (fun b b' _ _ e=>e) (H':=upd σ.H L (some [.t (.lit (.int .i64 (l':Int)))])) ?_ (fun b cs hb=>by cases hb) (fun x hx _=>?_) hK
 .show(if L=L then _ else _)=_
  rw[Qc rfl];rfl
 .show(if x=L then _ else _)=_
  rw[Qb hx]
theorem zsN(l:Nat)(hl:l<40){n C B:Nat}(hn:n<=4)(hC:8<=C)(IH:∀ (l1:Nat),l1<=l->∀ (ls:List Fm) (K:Nat),ls≠[]->ls.length<=8000-l1->4*C+K+6+l1*(4*C+14)<=B->(∀ f∈ls,Fv n C K f)->zgH ls n B l1)
  (ls:List Fm) (K:Nat) (hne:ls≠[]) (JA:ls.length<=8000-(l+1)) (hB:B<=400000000) (hK:4*C+K+6+(l+1)*(4*C+14)<=B) (YU:∀ f∈ls,Fv n C K f):zgH ls n B (l+1):=by
 have LO:(l+1)*(4*C+14)=l*(4*C+14)+(4*C+14):=waX _ _;have XA:IntKind.wrap .i64 (((l+1:Nat):Int)-1)=(l:Int):=by rw[Q6 (by omega) (by omega)];omega
 have hg:(((l+1:Nat):Int)<=0)=False:=Ql (by omega);obtain⟨l2,WS⟩:∃ l2:Nat,l2=l+1:=⟨_,rfl⟩
 rw[<-WS]at XA hg ⊢;rcases zoK ls n hn (by omega) YU (by omega)with⟨x,Us,E4,hc,hx⟩|⟨g,Gc,SD,Wa,hc⟩
 .rcases zuT x with⟨k,hk,OK,LP⟩|hall
  ·
   have XQ:k<n:=by omega
   have UZ:=Qh hk;have SE:=E4 _ UZ;generalize hr:x[k]=r at *
   have lnr:=zaD r;have ldr:=zbl r;have lfl:=znL r;obtain⟨F,hF⟩:∃ F,F=brF k r.floor:=⟨_,rfl⟩
   have fF:Fv n 6 (4*C+K+11) F:=by rw[hF];exact zyd XQ (V:=4*C+K+7) (by omega)
   have fG:=fF.neg;have oB:=zuC k (zfI r) (K:=B+1) (by omega) (by omega) (by omega) (by omega) (by show lN r.num<=_;omega) (by show lN (r.den:Int)<=_;omega) F (by rw[hF];unfold brF;rw[zjw,wbD]);have hi:=zmM (x.map zfI) (fun q=>decide (¬(qQ q).den=1)) 90 (by rw[Qm];omega) (fun s hs=>by
    obtain⟨u,hu,rfl⟩:=Qp.1 hs;have h1:=E4 u hu;have h2:=zaD u;have h3:=zbl u;exact zm2 (zfI u) (K:=B+1) (by omega) (by omega) (by show lN u.num<=_;omega) (by show lN (u.den:Int)<=_;omega)) k (.inl ⟨k,by rw[Qm];exact hk,rfl,by rw[Qq,zjw,hr];exact waA OK,fun s hs=>by
    rw[<-wdc]at hs;obtain⟨u,hu,rfl⟩:=Qp.1 hs;rw[zjw];exact wad (fun h=>h (LP u hu))⟩)
   rw[zqU]at hi;have w1:=(zlw ls [F] n hne (by omega) (show 1<100000000 by decide)).tw (tvs':=[.agg (sS ls n),.one (.seq (some false) [cF F])]) (.cons .reflA (.cons (.one .weak) .nil));have w2:=(zlw ls [zcX F] n hne (by omega) (show 1<100000000 by decide)).tw (tvs':=[.agg (sS ls n),.one (.seq (some false) [cF (zcX F)])]) (.cons .reflA (.cons (.one .weak) .nil));have YR:∀ {g:Fm},Fv n C (K+(4*C+14)) g->∀ f∈ls++[g],Fv n C (K+(4*C+14)) f:=fun hg f hf=>by
    rcases wan.1 hf with hf|hf
    .exact(YU f hf).mono (Qd _) (Qd _) (by omega)
    .obtain rfl:=Qr.1 hf;exact hg
   obtain⟨o1,k1,l1,UC,Uf,JJ⟩:=IH l (Qd _) (ls++[F]) (K+(4*C+14)) (by simp) (by simp;omega) (by omega) (YR (fF.mono (Qd _) (by omega) (by omega)));have hm:l1*(4*C+14)<=l*(4*C+14):=wak _ UC;obtain⟨o2,k2,l3,Lv,Wv,WK⟩:=IH l1 UC (ls++[zcX F]) (K+(4*C+14)) (by simp) (by simp;omega) (by omega) (YR (fG.mono (Qd _) (by omega) (by omega)));have Y1:QM cR x k=cR r:=by rw[<-hr];exact Q8 hk
   have Vd:((k:Int)<0)=False:=Ql (by omega);have Vr:((0:Int)<=(k:Int))=True:=Qf (by omega);have Ka:((k:Int)<(x.length:Int))=True:=Qf (by omega);have OL:l<=40:=by omega
   cases o1 with
   |some p =>
    obtain⟨rfl,UL,JB⟩:=Uf;refine⟨some p,true,l1,by omega,⟨rfl,(Sat.app.1 UL).1,JB⟩,?_⟩;refine zfL QC call53 func53 rfl ntmps53 results53 (by simp) (by decide) ?_ ?_ ?_ ?_ ?_
    .exact zgr
    .intro b hb;have:=zcu b hb;show b<1000000;omega
    .exact zby
    .exact ze8
    .simp only[go_sem,PIN,Ym,hg,XA]
     refine Q3 hc rfl ?_;simp only[go_sem];refine zhD rfl hi rfl ?_;simp only[go_sem,Vd,Vr,Ka,Y1]
     (repeat(refine Qg (by omega) ?_))
     refine Q3 oB rfl ?_;simp only[go_sem,Ym,PIN];refine Q3 w1 rfl ?_;simp only[go_sem];refine zkM 1000000 (.inr rfl) JJ rfl (by simp only[go_sem,Ym,PIN]<;>rfl) (by simp only[go_sem,Ym,PIN]<;>rfl) (by decide) ?_;simp only[go_sem];exact zfm rfl rfl (by simp only[go_sem,PIN]<;>rfl) (zcI fun p hp=>by cases hp;simp only[go_sem]<;>rfl)
   |none =>
    cases o2 with
    |some p =>
     obtain⟨rfl,UL,JB⟩:=Wv;refine⟨some p,true,l3,by omega,⟨rfl,(Sat.app.1 UL).1,JB⟩,?_⟩;refine zfL QC call53 func53 rfl ntmps53 results53 (by simp) (by decide) ?_ ?_ ?_ ?_ ?_
     .exact zgr
     .intro b hb;have:=zcu b hb;show b<1000000;omega
     .exact zby
     .exact ze8
     .simp only[go_sem,PIN,Ym,hg,XA]
      refine Q3 hc rfl ?_;simp only[go_sem];refine zhD rfl hi rfl ?_;simp only[go_sem,Vd,Vr,Ka,Y1]
      (repeat(refine Qg (by omega) ?_))
      refine Q3 oB rfl ?_;simp only[go_sem,Ym,PIN];refine Q3 w1 rfl ?_;simp only[go_sem];refine zg7 1000000 (.inr rfl) JJ rfl (by simp only[go_sem,Ym,PIN]<;>rfl) ?_;simp only[go_sem];refine Q3 w2 rfl ?_;simp only[go_sem];refine zkM 1000000 (.inr rfl) WK rfl (by simp only[go_sem,Ym,PIN]<;>rfl) (by simp only[go_sem,Ym,PIN]<;>rfl) (by decide) ?_;simp only[go_sem];exact zfm rfl rfl (by simp only[go_sem,PIN]<;>rfl) (zcI fun p hp=>by cases hp;simp only[go_sem]<;>rfl)
    |none =>
     refine⟨none,k1&&k2,l3,by omega,fun hk p hp=>?_,?_⟩
     .rw[wag]at hk
      have n1:=Uf hk.1 p;have n2:=Wv hk.2 p;have e1:=zyc k r.floor p;rw[<-hF]at e1;by_cases c:p k<=r.floor
      .exact n1 (Sat.app.2 ⟨hp,fun f hf=>by rw[Qr.1 hf,e1];omega⟩)
      .exact n2 (Sat.app.2 ⟨hp,fun f hf=>by rw[Qr.1 hf,zyG,e1];omega⟩)
     .refine zfL QC call53 func53 rfl ntmps53 results53 (by simp) (by decide) ?_ ?_ ?_ ?_ ?_
      .exact zgr
      .intro b hb;have:=zcu b hb;show b<1000000;omega
      .exact zby
      .exact ze8
      .simp only[go_sem,PIN,Ym,hg,XA]
       refine Q3 hc rfl ?_;simp only[go_sem];refine zhD rfl hi rfl ?_;simp only[go_sem,Vd,Vr,Ka,Y1]
       (repeat(refine Qg (by omega) ?_))
       refine Q3 oB rfl ?_;simp only[go_sem,Ym,PIN];refine Q3 w1 rfl ?_;simp only[go_sem];refine zg7 1000000 (.inr rfl) JJ rfl (by simp only[go_sem,Ym,PIN]<;>rfl) ?_;simp only[go_sem];refine Q3 w2 rfl ?_;simp only[go_sem];refine zg7 1000000 (.inr rfl) WK rfl (by simp only[go_sem,Ym,PIN]<;>rfl) ?_;cases k1 with
       |true =>
        simp only[go_sem];exact zfm rfl rfl (by simp only[go_sem,PIN]<;>rfl) (fun b cs hb=>by cases hb)
       |false =>
        simp only[go_sem];exact zfm rfl rfl (by simp only[go_sem,PIN]<;>rfl) (fun b cs hb=>by cases hb)
  ·
   obtain⟨q,hq⟩:∃ q:Nat->Int,q=fun j=>(x.getD j 0).num:=⟨_,rfl⟩
   have OM:∀ v,ptR x v=((q v:Int):Rat):=fun v=>by
    rw[hq];unfold ptR;show x.getD v 0=(((x.getD v 0).num:Int):Rat)
    have hd:(x.getD v 0).den=1:=by
     rw[waC];cases e:x[v]? with
     |none=>rfl
     |some r=>exact hall r (wdm e)
    exact den1 hd
   have FN:Sat ls q:=fun f hf=>by
    have h1:=hx f hf;rw[zua OM]at h1
    exact_mod_cast h1
   refine⟨some q,true,l,by omega,⟨rfl,FN,fun v hv=>?_⟩,?_⟩
   .have h1:=E4 (x.getD v 0) (by rw[waC,waa (by omega)];exact Qh _)
    have h2:=zaD (x.getD v 0);rw[hq];show lN (x.getD v 0).num<=B;omega
   .have hi:=zmM (x.map zfI) (fun q=>decide (¬(qQ q).den=1)) 90 (by rw[Qm];omega) (fun r hr=>by
     obtain⟨s,hs,rfl⟩:=Qp.1 hr;have h1:=E4 s hs;have h2:=zaD s;have h3:=zbl s;exact zm2 (zfI s) (K:=B+1) (by omega) (by omega) (by show lN s.num<=_;omega) (by show lN (s.den:Int)<=_;omega)) (-1) (.inr ⟨rfl,fun r hr=>by
     obtain⟨s,hs,rfl⟩:=Qp.1 hr;rw[zjw];exact wad (fun h=>h (hall s hs))⟩)
    rw[zqU]at hi;refine zfL QC call53 func53 rfl ntmps53 results53 (by simp) (by decide) ?_ ?_ ?_ ?_ ?_
    .exact zgr
    .intro b hb;have:=zcu b hb;show b<1000000;omega
    .exact zby
    .exact ze8
    .have Xl:((0:Int)<=(n:Int))=True:=Qf (by omega)
     simp only[go_sem,PIN,Ym,hg,XA];refine Q3 hc rfl ?_;simp only[go_sem];refine zhD rfl hi rfl ?_;simp only[go_sem,Xl];refine⟨⟨rfl,wbi _,by omega,by omega⟩,?_⟩;refine QK (fun i:Nat=>stL 97 [(10,.one (.vec 900000 2 0 n)),(46,.one (.t (eL cR x))),(47,litI .i64 x.length),(48,litI .i64 i)]
       [(1000000,[.t (.lit (.int .i64 (l:Int)))]),(900000,Q5 cJ (fnG n fun j=>if j<i then q j else 0))]) (fun i=>i<=n) (fun i=>n-i) 0 ?_ (Qk _) ?_
     .refine GStep.trans (zc6 (b:=45) (b':=900000) (by simp only[go_sem,Ym,PIN]<;>rfl) (by decide) (by decide)) ?_
      refine GStep.trans (zar 900000 (cs:=Zg n [Abs.C.t (Abs.T.lit (Value.bool false)),Abs.C.t (Abs.T.seq (some true) [])]) (by simp only[go_sem,Ym,PIN]<;>simp[Zg,rnC]) (zeZ n)) ?_;have e0:(fun j=>if j<0 then q j else(0:Int))=fun _=>0:=by funext j;rw[Qb (waO _)]
      rw[e0]
      (refine Q7 rfl ?_ ?_ ?_ ?_<;>(try simp only[go_sem,QH,Ym,PIN])<;>(try simp))
     .intro i hi
      simp only[go_sem];refine QI (fun Yw=>?_) (fun YG=>?_)
      .have Xw:i<n:=by omega
       have LQ:i<x.length:=by omega
       have Y1:QM cR x i=cR x[i]:=Q8 LQ;have FO:q i=x[i].num:=by rw[hq];show(x.getD i 0).num=_;rw[waC,waa LQ];rfl
       have cl:=fun g=>zaB (n:=n) (g:=g)
       have sd:=zbD (n:=n) (g:=fun j=>if j<i then q j else 0) Xw (q:=x[i].num);have sde:fnG n (fun v=>if v=i then x[i].num else if v<i then q v else 0)=fnG n (fun v=>if v<i+1 then q v else 0):=Yk fun v hv=>by
        by_cases e1:v=i
        .rw[Qc e1,Qc (by omega),e1,FO]
        .rw[Qb e1]
         by_cases e2:v<i
         .rw[Qc e2,Qc (by omega)]
         .rw[Qb e2,Qb (by omega)]
       rw[sde]at sd;generalize x[i]=r at *
       have XG:((0:Int)<=(i:Int))=True:=Qf (by omega);have Vb:((i:Int)<(n:Int))=True:=Qf (by omega);simp only[go_sem,Y1,Yw,cl,sd,XG,Vb]
       (repeat(refine Qg (by omega) ?_))
       refine⟨i+1,Xw,(by show n-(i+1)<n-i;omega),?_⟩
       (refine Q7 rfl ?_ ?_ ?_ ?_<;>(try simp only[go_sem,QH,Q6 (n:=(i:Int)+1) (by omega) (by omega)])<;>(try simp))
      .obtain rfl:i=n:=by omega
       simp only[go_sem];have e1:fnG i (fun j=>if j<i then q j else 0)=fnG i q:=Yk fun v hv=>Qc hv
       rw[e1];exact zfm rfl rfl (by simp only[go_sem,PIN]<;>rfl) (zcI fun p hp=>by cases hp;simp only[go_sem]<;>rfl)
 ·
  refine⟨none,true,l,by omega,fun _ p hp=>Wa.sat YU hp,?_⟩;refine zfL QC call53 func53 rfl ntmps53 results53 (by simp) (by decide) ?_ ?_ ?_ ?_ ?_
  .exact zgr
  .intro b hb;have:=zcu b hb;show b<1000000;omega
  .exact zby
  .exact ze8
  .simp only[go_sem,PIN,Ym,hg,XA]
   refine Q3 hc rfl ?_;simp only[go_sem];exact zfm rfl rfl rfl (fun b cs hb=>by cases hb)
theorem ztW{n C B:Nat}(hn:n<=4)(hC:8<=C)(hB:B<=400000000):∀ (l:Nat),l<=40->∀ (ls:List Fm) (K:Nat),ls≠[]->ls.length<=8000-l->4*C+K+6+l*(4*C+14)<=B->(∀ f∈ls,Fv n C K f)->zgH ls n B l:=by
 intro l
 induction l using Nat.strongRecOn with
 |ind l ih =>
  intro hl ls K hne JA hK YU;cases l with
  |zero=>exact zsM ls n B
  |succ l=>exact zsN l (by omega) hn hC (fun l1 UC ls K a b c d=>ih l1 (by omega) (by omega) ls K a b c d) ls K hne JA hB hK YU
abbrev SoC(f:FuncId)(args:List TV)(n:Nat)(o:Option (Nat->Int)):Prop:=zbX prog f args (QB (zdp n o)) (solA n o)
theorem zdH{m:Nat}{f:FuncId}{ys:List AV}{args:List TV}{n:Nat}{p:Nat->Int}{σ:St}{K:AV->St->Prop}(d:Nat)(hm:m=1\/m=2)(h:SoC f args n (some p))(YY:ys=args.map emb)(hn:σ.H d=none)(hd:d<PIN)
  (hK:K (.tup [.one (.vec d 2 0 n),QO true]) (σ.withH (upd σ.H d (some (Q5 cJ (fnG n p)))))):ZK prog m f ys σ K:=by
 refine zfb (H':=upd σ.H d (some (Q5 cJ (fnG n p)))) (fun _=>d) hm h YY (fun b hb=>⟨hn,hd⟩) (fun b b' h1 h2 _=>(zcu b h1).trans (zcu b' h2).symm) (fun b cs hb=>?_) (fun x hb=>?_) hK
 .obtain rfl:=zcu b (by rw[hb];simp)
  have hb:some (Q5 cJ (fnG n p))=some cs:=hb;cases hb
  show(if d=d then some _ else _)=_;rw[Qc rfl];congr 1;unfold Q5;rw[wac];rfl
 .have:x≠d:=fun e=>hb 900000 (by show(if 900000=900000 then _ else _)≠none;simp) e.symm
  show(if x=d then _ else _)=_;rw[Qb this]
theorem zdI{m:Nat}{f:FuncId}{ys:List AV}{args:List TV}{n:Nat}{σ:St}{K:AV->St->Prop}(hm:m=1\/m=2)(h:SoC f args n none)(YY:ys=args.map emb)
  (hK:K (.tup [.one (.t (.seq (some true) [])),QO false]) (σ.withH σ.H)):ZK prog m f ys σ K :=
 zfb (H':=σ.H) id hm h YY (fun b hb=>(hb rfl).elim) (fun b b' h1 _ _=>(h1 rfl).elim) (fun b cs hb=>by cases hb) (fun x _=>rfl) hK
theorem zbo{P:Program}{Y:QD}{x y:AV}{σ:St}(h4:σ.s 2=x)(h5:σ.s 3=y)(hX:∀ b cs,Y b=some cs->σ.H b=some cs):zhL P [.tmp 2,.tmp 3] Y (.tup [x,y]) .ret σ :=
 ⟨.inr rfl,(fun x hx=>by
  rcases wab.1 hx with rfl|hx
  .trivial
  .obtain rfl:=Qr.1 hx;trivial),by rw[<-h4,<-h5];rfl,hX⟩
theorem zqP{P:Program}{Y:QD}{x y:AV}{σ:St}(h4:σ.s 6=x)(h5:σ.s 7=y)(hX:∀ b cs,Y b=some cs->σ.H b=some cs):zhL P [.tmp 6,.tmp 7] Y (.tup [x,y]) .ret σ :=
 ⟨.inr rfl,(fun x hx=>by
  rcases wab.1 hx with rfl|hx
  .trivial
  .obtain rfl:=Qr.1 hx;trivial),by rw[<-h4,<-h5];rfl,hX⟩
theorem zdM{n:Nat}{o:Option (Nat->Int)}:inA (QB (zdp n o)) (solA n o):=ze8
def zbq(ls:List Fm)(n B:Nat):Prop:=∃ o,zbE ls n B o/\SoC 31 [.agg (sS ls n)] n o
def SpT(ls:List Fm)(n v B:Nat)(o:Option (Nat->Int)):Prop:=match o with
 |some p=>Sat ls p/\∀ v,v<n->lN (p v)<=B
 |none=>∀ l∈QU ls v,∀ i:Int,0<=i->i<=zcm v (zaj v (QR ls v)) l->∀ p,¬Sat (ls++[QP l (Ze i),scF (QP l (Ze i)) (-1)]) p
def zmu(ls:List Fm)(n:Nat)(ev:List Fm)(v B:Nat):Prop:=∃ o,SpT ls n v B o/\SoC 99 [.agg (sN ls n ev),tI .i64 v,.agg (sB (QU ls v) (QR ls v) (ZF ls v))] n o
def cE(ls:List Fm)(i:Nat):Int:=zfx i (QU ls i) (QR ls i)
def zbc(ls:List Fm):Nat->Option Nat
 |0=>none
 |i+1=>if 0<(QU ls i).length+(QR ls i).length then(match zbc ls i with
  |none=>some i
  |some v=>if cE ls i<cE ls v then some i else some v)else zbc ls i
theorem zik(ls:List Fm):∀ n,match zbc ls n with
  |none=>∀ i,i<n->(QU ls i).length+(QR ls i).length=0
  |some v=>v<n/\0<(QU ls v).length+(QR ls v).length
 |0=>fun i hi=>Qo hi (waO _)
 |n+1=>by
  have ih:=zik ls n;rw[zbc];by_cases c:0<(QU ls n).length+(QR ls n).length
  .rw[Qc c]
   cases h:zbc ls n with
   |none=>exact⟨waN n,c⟩
   |some v =>
    rw[h]at ih;show match (if cE ls n<cE ls v then some n else some v)with|none=>_|some v=>_
    by_cases c2:cE ls n<cE ls v
    .rw[Qc c2];exact⟨waN n,c⟩
    .rw[Qb c2];exact⟨by have:=ih.1;omega,ih.2⟩
  .rw[Qb c]
   cases h:zbc ls n with
   |none =>
    rw[h]at ih;intro i hi;by_cases e:i=n
    .rw[e];omega
    .exact ih i (by omega)
   |some v=>rw[h]at ih;exact⟨by have:=ih.1;omega,ih.2⟩
def pkI:Option Nat->Int
 |none=>-1
 |some v=>v
def pkC(ls:List Fm):Option Nat->List Go.Abs.C
 |none=>[.t (.seq (some true) []),.t (.seq (some true) []),.t (.seq (some true) [])]
 |some v=>(sB (QU ls v) (QR ls v) (ZF ls v)).map .t
theorem zjc(ls:List Fm)(v:Nat):(QU ls v).length<=ls.length:=wdS _ _
theorem ziV(ls:List Fm)(v:Nat):(QR ls v).length<=ls.length:=wdS _ _
theorem zw5{v n C K B:Nat}{lo hi:List Fm}{p:Nat->Int}(hn:n<=1000000)(hv:v<n)(h1:∀ f∈lo,Fv n C K f)(h2:∀ f∈hi,Fv n C K f)(hp:∀ v,v<n->lN (p v)<=B):lN (zh2 (frL v p lo) (toL v p hi))<=max C K+B+n+1:=by
 have Vg:∀ f,Fv n C K f->lN (atF f (Zq p v 0))<=max C K+B+n:=fun f hf=>by
  have YJ:=hf.bd (L:=max C K) hn (wbK _ _) (wbG _ _);have h:=zhX YJ (p:=fun u=>if u<n then Zq p v 0 u else 0) (K:=B) (fun u=>by
   show lN (if u<n then(if u=v then 0 else p u)else 0)<=B;split
   .split
    .rw[ZI];omega
    .exact hp u ‹_›
   .rw[ZI];omega) f.1.length
  rw[Q1]at h;have e:atF f (fun u=>if u<n then Zq p v 0 u else 0)=atF f (Zq p v 0):=zgk fun m hm=>Qc (hf.lt m hm)
  have h3:=YJ.1;rw[<-e];show lN (f.2+atM f.1 _)<=_;omega
 have f1:=zel v p lo;have f2:=zem v p hi;unfold zh2;cases hf:frL v p lo with
 |some m =>
  rw[hf]at f1;obtain⟨⟨a,ha,e⟩,_⟩:=f1;have h3:=zas (-(atF a (Zq p v 0))) (-(coM a.1 v));have h4:=Vg a (h1 a ha);rw[Zs]at h3;show lN m<=_;rw[e];unfold frA;rw[Zs];omega
 |none =>
  cases ht:toL v p hi with
  |some m =>
   rw[ht]at f2;obtain⟨⟨a,ha,e⟩,_⟩:=f2;have h3:=zas (-(atF a (Zq p v 0))) (coM a.1 v);have h4:=Vg a (h2 a ha);rw[Zs]at h3;show lN m<=_;rw[e];unfold toA;omega
  |none=>show lN 0<=_;rw[ZI];omega
theorem zr4(ls ev:List Fm){n C K B B2 v:Nat}(hn:n<=4)(hC:max C K<=500000000)(hB:B<=3000000000)(ER:max C K+B+n+1<=B2)(hl:ls.length<=9000)(h:∀ f∈ls,Fv n C K f)(hv:zbc ls n=some v)
  (E7:zbq (shV (!decide (exV v (QU ls v) (QR ls v))) v (QU ls v) (QR ls v) (ZF ls v)) n B) (JP:zbq (shV false v (QU ls v) (QR ls v) (ZF ls v)) n B) (PA:zmu ls n ev v B2) :
  ∃ o,zbE ls n B2 o/\SoC 54 [.agg (sN ls n ev)] n o:=by
 have Wj:=zik ls n;rw[hv]at Wj;have Mx:v<n:=Wj.1;have hw:∀ f∈ls,WF f:=fun f hf=>(h f hf).wf
 have Kf:∀ f∈QU ls v,Fv n C K f:=fun f hf=>h f (zbw.1 hf).1
 have VX:∀ f∈QR ls v,Fv n C K f:=fun f hf=>h f (zcc.1 hf).1
 have l1:=zjc ls v;have l2:=ziV ls v;have h3:=zkt ls v;have WU:((QU ls v).length+1)*(QR ls v).length<=9001*9000:=waB (by omega) (by omega);have oE:=zn3 v (QU ls v) (QR ls v) (ZF ls v) (n:=n) (C:=C) (K:=K) (by omega) (by omega) (by omega) (by omega) (by omega) Kf VX;have oS:=fun d=>ztp d v (QU ls v) (QR ls v) (ZF ls v) (n:=n) (C:=C) (K:=K) (by omega) (by omega) (by omega) (by omega) (by omega) Kf VX
 obtain⟨o1,Uf,Ux⟩:=E7;obtain⟨o2,Wv,Kb⟩:=JP;obtain⟨o3,K7,Rh⟩:=PA;obtain⟨eb,ES⟩:∃ eb,eb=decide (exV v (QU ls v) (QR ls v)):=⟨_,rfl⟩
 rw[<-ES]at Ux Uf oE;have walk:∀ o,((∃ p p2,SoC 31 [.agg (sS (shV (!eb) v (QU ls v) (QR ls v) (ZF ls v)) n)] n (some p)/\Zf prog 98 [.agg ((sB (QU ls v) (QR ls v) (ZF ls v)).map .t),litI .i64 v,.one (.vec PIN 2 0 n)] (xV n p) (QO true) (xV n p2)/\o=some p2)\/(SoC 31 [.agg (sS (shV (!eb) v (QU ls v) (QR ls v) (ZF ls v)) n)] n none/\((eb=true/\o=none)\/(eb=false/\((SoC 31 [.agg (sS (shV (false) v (QU ls v) (QR ls v) (ZF ls v)) n)] n none/\o=none)\/∃ q,SoC 31 [.agg (sS (shV (false) v (QU ls v) (QR ls v) (ZF ls v)) n)] n (some q)/\SoC 99 [.agg (sN ls n ev),tI .i64 v,.agg (sB (QU ls v) (QR ls v) (ZF ls v))] n o)))))->SoC 54 [.agg (sN ls n ev)] n o:=by
  intro o Xn;have oS1:=oS !eb;have oS2:=oS false;refine zcp QC call54 func54 rfl ntmps54 results54 (by simp) (by decide) ?_ ?_ ?_
  .exact zby
  .exact zdM
  .simp only[go_sem]
   refine QK (fun i:Nat=>stL 92 [(1,.one (.ptr 1 0)),(4,litI .i64 (pkI (zbc ls i))),(5,.one (.ptr 5 0)),(16,litI .i64 n),(17,litI .i64 i)]
     [(1,(sN ls n ev).map .t),(5,pkC ls (zbc ls i))]) (fun i=>i<=n) (fun i=>n-i) 0 ?_ (Qk _) ?_
   ·(refine Q7 rfl ?_ ?_ ?_ ?_<;>(try simp only[go_sem,pkI,pkC,show zbc ls 0=none from rfl])<;>(try simp))
   .intro i hi
    simp only[go_sem];refine QI (fun Yw=>?_) (fun YG=>?_)
    .have Xw:i<n:=by omega
     have UA:=zy2 i ls n (n:=n) (C:=C) (K:=K) (by omega) (by omega) (by omega) (by omega) h;have Jd:=zik ls i;have HJ:∀ f∈QU ls i,Fv n C K f:=fun f hf=>h f (zbw.1 hf).1
     have HK:∀ f∈QR ls i,Fv n C K f:=fun f hf=>h f (zcc.1 hf).1
     have li1:=zjc ls i;have li2:=ziV ls i;have Jy:=zpi i (QU ls i) (QR ls i) (ZF ls i) (n:=n) (C:=C) (K:=K) (by omega) (by omega) (by omega) (by omega) (by omega) HJ HK;have Yx:zbc ls (i+1)=if 0<(QU ls i).length+(QR ls i).length then(match zbc ls i with
      |none=>some i
      |some v=>if cE ls i<cE ls v then some i else some v)else zbc ls i:=rfl
     have WX:IntKind.wrap .i64 (((QU ls i).length:Int)+(QR ls i).length)=(((QU ls i).length+(QR ls i).length:Nat):Int):=by rw[Q6 (by omega) (by omega)];omega
     have PB:cE ls i=zfx i (QU ls i) (QR ls i):=rfl;obtain⟨S0,Gr⟩:∃ S0,S0=(QU ls i).length+(QR ls i).length:=⟨_,rfl⟩
     rw[<-Gr]at WX Yx;cases Dz:zbc ls i with
     |none =>
      rw[Dz]at Yx;by_cases c:0<S0
      .rw[Qc c]at Yx
       have Yx:zbc ls (i+1)=some i:=Yx;have c':((0:Int)<(S0:Int))=True:=Qf (by omega);simp only[go_sem,pkI,pkC];refine Q3 UA rfl ?_;simp only[go_sem];refine Q4 0 rfl ?_;simp only[go_sem,WX,c'];refine Q4 0 rfl ?_;simp only[go_sem];refine⟨i+1,Xw,(by show n-(i+1)<n-i;omega),?_⟩
       (refine Q7 rfl ?_ ?_ ?_ ?_<;>(try simp only[go_sem,Yx,Q6 (n:=(i:Int)+1) (by omega) (by omega)])<;>(try simp))
      .rw[Qb c]at Yx
       have c':((0:Int)<(S0:Int))=False:=Ql (by omega);simp only[go_sem,pkI,pkC];refine Q3 UA rfl ?_;simp only[go_sem];refine Q4 0 rfl ?_;simp only[go_sem,WX,c'];refine⟨i+1,Xw,(by show n-(i+1)<n-i;omega),?_⟩
       (refine Q7 rfl ?_ ?_ ?_ ?_<;>(try simp only[go_sem,Yx,Q6 (n:=(i:Int)+1) (by omega) (by omega)])<;>(try simp))
     |some u =>
      rw[Dz]at Yx Jd;have RD:=Jd.1;have HL:∀ f∈QU ls u,Fv n C K f:=fun f hf=>h f (zbw.1 hf).1
      have HM:∀ f∈QR ls u,Fv n C K f:=fun f hf=>h f (zcc.1 hf).1
      have lu1:=zjc ls u;have lu2:=ziV ls u;have My:=zpi u (QU ls u) (QR ls u) (ZF ls u) (n:=n) (C:=C) (K:=K) (by omega) (by omega) (by omega) (by omega) (by omega) HL HM;have HN:cE ls u=zfx u (QU ls u) (QR ls u):=rfl;have Yx:zbc ls (i+1)=if 0<S0 then(if cE ls i<cE ls u then some i else some u)else some u:=Yx
      rw[PB,HN]at Yx;have u0:((u:Int)<0)=False:=Ql (by omega);by_cases c:0<S0
      .rw[Qc c]at Yx
       have c':((0:Int)<(S0:Int))=True:=Qf (by omega);by_cases d:zfx i (QU ls i) (QR ls i)<zfx u (QU ls u) (QR ls u)
       .rw[Qc d]at Yx
        have d':=Qf d;simp only[go_sem,pkI,pkC];refine Q3 UA rfl ?_;simp only[go_sem];refine Q4 0 rfl ?_;simp only[go_sem,WX,c',u0];refine Q3 Jy rfl ?_;simp only[go_sem];refine Q3 My rfl ?_;simp only[go_sem,d'];refine Q4 0 rfl ?_;simp only[go_sem];refine⟨i+1,Xw,(by show n-(i+1)<n-i;omega),?_⟩
        (refine Q7 rfl ?_ ?_ ?_ ?_<;>(try simp only[go_sem,Yx,Q6 (n:=(i:Int)+1) (by omega) (by omega)])<;>(try simp))
       .rw[Qb d]at Yx
        have d':=Ql d;simp only[go_sem,pkI,pkC];refine Q3 UA rfl ?_;simp only[go_sem];refine Q4 0 rfl ?_;simp only[go_sem,WX,c',u0];refine Q3 Jy rfl ?_;simp only[go_sem];refine Q3 My rfl ?_;simp only[go_sem,d'];refine⟨i+1,Xw,(by show n-(i+1)<n-i;omega),?_⟩
        (refine Q7 rfl ?_ ?_ ?_ ?_<;>(try simp only[go_sem,Yx,Q6 (n:=(i:Int)+1) (by omega) (by omega)])<;>(try simp))
      .rw[Qb c]at Yx
       have c':((0:Int)<(S0:Int))=False:=Ql (by omega);simp only[go_sem,pkI,pkC];refine Q3 UA rfl ?_;simp only[go_sem];refine Q4 0 rfl ?_;simp only[go_sem,WX,c'];refine⟨i+1,Xw,(by show n-(i+1)<n-i;omega),?_⟩
       (refine Q7 rfl ?_ ?_ ?_ ?_<;>(try simp only[go_sem,Yx,Q6 (n:=(i:Int)+1) (by omega) (by omega)])<;>(try simp))
    .obtain rfl:i=n:=by omega
     rw[hv];simp only[go_sem,pkI,pkC];refine Q3 oE rfl ?_;simp only[go_sem];refine zdG 15 rfl ?_;refine QN.pre [] 0 [0,1,2,3,4,5,6,7,8] [9,10,11,12,13,14] #[true,true,true,true,true,true,true,true,true,false,false,false,false,false,false] 6 (by decide +kernel) (by decide +kernel) (by decide +kernel) (by decide +kernel) (by decide +kernel) rfl rfl (by decide +kernel) rfl ?_;simp only[Zn,wbj,wbk,wa2,wa7,wa3];simp only[go_sem];refine Q3 oS1 rfl ?_;simp only[go_sem];refine QN.ord [0,1,2,3,4,5,6,7,8] 2 [9,10,11,12,13,14] (by decide +kernel) (by decide +kernel) (by decide +kernel) (by decide +kernel) (by decide +kernel) (by decide) ?_;simp only[Zn,wbj,wbk,wa2,wa7,wa3];simp only[go_sem];rcases Xn with⟨p,p2,Ux,YO,rfl⟩|⟨Ux,Xn⟩
     .refine zdH 900000 (.inr rfl) Ux rfl (by simp only[go_sem]) (by decide) ?_
      simp only[go_sem];refine zw8 900000 (.inr rfl) YO rfl (Q2.2 ⟨(fun c hc=>by obtain⟨t,_,rfl⟩:=Qp.1 hc;trivial),Q2.2 ⟨trivial,Q2.2 ⟨xV_p,fun x hx=>by cases hx⟩⟩⟩) (by simp only[go_sem]<;>rfl) ?_;simp only[go_sem];exact zbo rfl rfl (zcI fun p hp=>by cases hp;simp only[go_sem]<;>rfl)
     refine zdI (.inr rfl) Ux rfl ?_;rcases Xn with⟨rfl,rfl⟩|⟨rfl,Xn⟩
     .simp only[go_sem]
      exact zbo rfl rfl (fun b cs hb=>by cases hb)
     simp only[go_sem];refine zdG 13 rfl ?_;refine QN.pre [] 0 [0,1,2,3,4,5,6] [7,8,9,10,11,12] #[true,true,true,true,true,true,true,false,false,false,false,false,false] 6 (by decide +kernel) (by decide +kernel) (by decide +kernel) (by decide +kernel) (by decide +kernel) rfl rfl (by decide +kernel) rfl ?_;simp only[Zn,wbj,wbk,wa2,wa7,wa3];simp only[go_sem];refine Q3 oS2 rfl ?_;simp only[go_sem];refine QN.ord [0,1,2,3,4,5,6] 2 [7,8,9,10,11,12] (by decide +kernel) (by decide +kernel) (by decide +kernel) (by decide +kernel) (by decide +kernel) (by decide) ?_;simp only[Zn,wbj,wbk,wa2,wa7,wa3];simp only[go_sem];rcases Xn with⟨Kb,rfl⟩|⟨q,Kb,Rh⟩
     .refine zdI (.inr rfl) Kb rfl ?_
      simp only[go_sem];exact zbo rfl rfl (fun b cs hb=>by cases hb)
     refine zdH 900001 (.inr rfl) Kb rfl (by simp only[go_sem]) (by decide) ?_;simp only[go_sem];cases o with
     |none =>
      refine zdI (.inr rfl) Rh rfl ?_;simp only[go_sem];exact zbo rfl rfl (fun b cs hb=>by cases hb)
     |some p =>
      refine zdH 900000 (.inr rfl) Rh rfl (by simp only[go_sem]) (by decide) ?_;simp only[go_sem];exact zbo rfl rfl (zcI fun p hp=>by cases hp;simp only[go_sem]<;>rfl)
 have Vj:=fun(p:Nat->Int) (d:Bool) (hs:Sat (shV d v (QU ls v) (QR ls v) (ZF ls v)) p) (f:Fm) (hf:f∈ZF ls v)=>hs f (zgc.2 (.inl hf))
 cases o1 with
 |some p =>
  have Uf:=Uf;rw[ES]at Uf;have YA:=zpw.2 (zyn hw Uf.1);have YO:=zuZ v (QU ls v) (QR ls v) (ZF ls v) p (n:=n) (C:=C) (K:=K) (B:=B) (by omega) (by omega) (by omega) Mx (by omega) (by omega) Kf VX Uf.2;rw[YA]at YO;have hs:=ztM (v:=v) hw (Vj p _ Uf.1) (zpw.1 YA);have YJ:∀ u,u<n->lN (Zq p v (zh2 (frL v p (QU ls v)) (toL v p (QR ls v))) u)<=B2:=fun u hu=>by
   show lN (if u=v then _ else p u)<=B2;split
   .exact Qn (zw5 (n:=n) (C:=C) (K:=K) (B:=B) (by omega) Mx Kf VX Uf.2) ER
   .exact Qn (Uf.2 u hu) (by omega)
  exact⟨some _,⟨hs,YJ⟩,walk _ (.inl ⟨p,_,Ux,YO,rfl⟩)⟩
 |none =>
  by_cases he:exV v (QU ls v) (QR ls v)
  .have e1:eb=true:=by rw[ES];exact waA he
   refine⟨none,fun p hp=>Uf p ?_,walk _ (.inr ⟨Ux,.inl ⟨e1,rfl⟩⟩)⟩;rw[e1];exact zpH hw hp
  .have e1:eb=false:=by rw[ES];exact wad he
   cases o2 with
   |none=>exact⟨none,fun p hp=>Wv p (zpH hw hp),walk _ (.inr ⟨Ux,.inr ⟨e1,.inl ⟨Kb,rfl⟩⟩⟩)⟩
   |some q =>
    refine⟨o3,?_,walk _ (.inr ⟨Ux,.inr ⟨e1,.inr ⟨q,Kb,Rh⟩⟩⟩)⟩;cases o3 with
    |some p=>exact K7
    |none =>
     intro p hp;rw[e1]at Uf;obtain⟨l,hl,i,h0,h1,h2⟩:=zvn hw hp (Uf p);exact K7 l hl i h0 h1 p (Sat.app.2 ⟨hp,fun f hf=>by
      rcases wab.1 hf with rfl|hf
      .omega
      .rw[Qr.1 hf,zcQ,h2];omega⟩)
def zbI(ls:List Fm)(l:Fm)(i:Int):List Fm:=ls++[QP l (Ze i),scF (QP l (Ze i)) (-1)]
theorem zsV{v i:Nat}{l:List Fm}(h:i<l.length):zaj v (l.take (i+1))=if zaj v (l.take i)<coM l[i].1 v then coM l[i].1 v else zaj v (l.take i):=by rw[Zd h,zsT]
theorem zpT{v n C K:Nat}{l:List Fm}(h:∀ f∈l,Fv n C K f):lN (zaj v l)<=C+1:=by
 rcases(zih v l).2.2 with e|⟨f,hf,e⟩
 .rw[e];have:=zcL;omega
 .rw[e];have:=(h f hf).lco v;omega
theorem zr5(ls ev:List Fm){n C K B v:Nat}(hn:n<=4)(hC:max C K<=500000000)(hl:ls.length<=9000)(hne:ls≠[])(hv:v<n)(h:∀ f∈ls,Fv n C K f)
  (hS:∀ l∈QU ls v,∀ i:Int,0<=i->i<=zcm v (zaj v (QR ls v)) l->zbq (zbI ls l i) n B):zmu ls n ev v B:=by
 have Kf:∀ f∈QU ls v,Fv n C K f:=fun f hf=>h f (zbw.1 hf).1
 have Rq:∀ f∈QU ls v,coM f.1 v<0:=fun f hf=>(zbw.1 hf).2
 have VX:∀ f∈QR ls v,Fv n C K f:=fun f hf=>h f (zcc.1 hf).1
 have l1:=zjc ls v;have l2:=ziV ls v;obtain⟨m,hm⟩:∃ m,m=zaj v (QR ls v):=⟨_,rfl⟩
 have X6:1<=m:=by rw[hm];exact(zih v (QR ls v)).1
 have lm:lN m<=C+1:=by rw[hm];exact zpT VX
 unfold zmu SpT;rw[<-hm]at hS ⊢;generalize PH:QU ls v=lo at *
 generalize PI:QR ls v=hi at *
 generalize ZF ls v=re at *
 obtain⟨M,hM⟩:∃ M:Nat->Nat,M=fun k=>(zcm v m (lo.getD k ([],0))+1).toNat:=⟨_,rfl⟩
 have U0:∀ k (hk:k<lo.length),lo.getD k ([],0)=lo[k]:=fun k hk=>by rw[waC,waa hk];rfl
 have HU:∀ k (hk:k<lo.length) (i:Nat),i<M k↔(i:Int)<=zcm v m lo[k]:=fun k hk i=>by
  rw[hM];show i<(zcm v m (lo.getD k ([],0))+1).toNat↔_;rw[U0 k hk];omega
 obtain⟨O,hO⟩:∃ O:Nat->Nat->Option (Nat->Int),∀ k (hk:k<lo.length) i,i<M k->zbE (zbI ls lo[k] i) n B (O k i)/\SoC 31 [.agg (sS (zbI ls lo[k] i) n)] n (O k i):=by
  have:∀ k i,∃ o:Option (Nat->Int),∀ (hk:k<lo.length),i<M k->zbE (zbI ls lo[k] i) n B o/\SoC 31 [.agg (sS (zbI ls lo[k] i) n)] n o:=fun k i=>by
   by_cases hk:k<lo.length
   .by_cases hi:i<M k
    .obtain⟨o,h1⟩:=hS _ (Qh hk) i (by omega) ((HU k hk i).1 hi)
     exact⟨o,fun _ _=>h1⟩
    .exact⟨none,fun _ h=>Qo h hi⟩
   .exact⟨none,fun h=>Qo h hk⟩
  obtain⟨O,hO⟩:=wdI.1 fun k=>wdI.1 (this k)
  exact⟨O,fun k hk i hi=>hO k i hk hi⟩
 obtain⟨I,hI⟩:∃ I:Nat->Nat,∀ k,I k<=M k/\(∀ r,r<I k->¬(O k r).isSome=true)/\(I k<M k->(O k (I k)).isSome=true) :=
  wdI.1 fun k=>zgZ (fun i=>(O k i).isSome=true) (M k)
 obtain⟨T,Uf,Wv,K7⟩:=zgZ (fun k=>I k<M k) lo.length;obtain⟨o,Dk,EM⟩:∃ o:Option (Nat->Int),(T<lo.length->o=O T (I T))/\(T=lo.length->o=none):=by
  by_cases c:T<lo.length
  .exact⟨O T (I T),fun _=>rfl,fun e=>by omega⟩
  .exact⟨none,fun e=>Qo e c,fun _=>rfl⟩
 refine⟨o,?_,?_⟩
 .cases ho:o with
  |some p =>
   have c:T<lo.length:=by
    by_cases c:T<lo.length
    .exact c
    .have:=EM (by omega);rw[this]at ho;cases ho
   have h1:=(hO T c (I T) (K7 c)).1;rw[<-Dk c,ho]at h1;exact⟨(Sat.app.1 h1.1).1,h1.2⟩
  |none =>
   have c:T=lo.length:=by
    by_cases c:T<lo.length
    .exfalso
     have h1:=(hI T).2.2 (K7 c);rw[<-Dk c,ho]at h1;cases h1
    .omega
   intro l hl i h0 h1 p hp;obtain⟨k,hk,rfl⟩:=waK.1 hl;obtain⟨i,rfl⟩:∃ j:Nat,i=j:=⟨i.toNat,by omega⟩
   have hi:=(HU k hk i).2 h1;have h2:=Wv k (by omega);have h3:=(hI k).1;have h4:=(hI k).2.1 i (by omega);have h5:=(hO k hk i hi).1;cases e:O k i with
   |none=>rw[e]at h5;exact h5 p hp
   |some q=>rw[e]at h4;exact h4 rfl
 .refine zcp QC call99 func99 rfl ntmps99 results99 (by simp) (by decide) ?_ ?_ ?_
  .exact zby
  .exact zdM
  .have w1:=zbP 1 (by decide) (by decide)
   have w0:=zbP 0 (by decide) (by decide);have wm:=zbP (-1) (by decide) (by decide);have n1:=zcL;have nm:lN (-1)<=1:=by rw[Zs];exact n1
   simp only[go_sem];refine Q3 w1 rfl ?_;simp only[go_sem];refine QK (fun i:Nat=>stL 89 [(1,litI .i64 v),(3,.one (.ptr 3 0)),(5,.one (.ptr 5 0)),(8,.one (.ptr 8 0)),(23,.one (.t (eL cF hi))),(24,litI .i64 hi.length),(25,litI .i64 i)]
     [(3,(sN ls n ev).map .t),(5,(sB lo hi re).map .t),(8,(cJ (zaj v (hi.take i))).map .t)]) (fun i=>i<=hi.length) (fun i=>hi.length-i) 0 ?_ (Qk _) ?_
   .rw[wao,show zaj v []=1 from rfl]
    (refine Q7 rfl ?_ ?_ ?_ ?_<;>(try simp only[go_sem])<;>(try simp))
   .intro i R5
    simp only[go_sem];refine QI (fun Yw=>?_) (fun YG=>?_)
    .have Yv:i<hi.length:=by omega
     have Y1:QM cF hi i=cF hi[i]:=Q8 Yv;have hg:=VX _ (Qh Yv);have o3:=zc5 hg (by omega) (by omega) v;have ly:=hg.lco v;have lmi:=zpT (v:=v) (l:=hi.take i) fun f hf=>VX f (waQ hf)
     have Yx:=zsV (v:=v) Yv;have o4:=zf4 (coM hi[i].1 v) (zaj v (hi.take i)) (by omega) (by omega);generalize zaj v (hi.take i)=mi at *
     generalize coM hi[i].1 v=y at *
     generalize hi[i]=g at *
     simp only[go_sem,Y1,Yw]
     (repeat(refine Qg (by omega) ?_))
     refine Q3 o3 rfl ?_;simp only[go_sem];refine Q3 o4 rfl ?_;by_cases c:mi<y
     .rw[Qc c]at Yx
      rw[zi6 c];simp only[go_sem];refine⟨i+1,Yv,(by show hi.length-(i+1)<hi.length-i;omega),?_⟩
      (refine Q7 rfl ?_ ?_ ?_ ?_<;>(try simp only[go_sem,Yx,Q6 (n:=(i:Int)+1) (by omega) (by omega)])<;>(try simp))
     .rw[Qb c]at Yx
      have hc:=zi5 (x:=y) (y:=mi) (by omega);have Ja:(0<QY y mi)=False:=Ql (by omega);simp only[go_sem,Ja];refine⟨i+1,Yv,(by show hi.length-(i+1)<hi.length-i;omega),?_⟩
      (refine Q7 rfl ?_ ?_ ?_ ?_<;>(try simp only[go_sem,Yx,Q6 (n:=(i:Int)+1) (by omega) (by omega)])<;>(try simp))
    .obtain rfl:i=hi.length:=by omega
     rw[Q1,<-hm];simp only[go_sem];refine QK (fun k:Nat=>stL 89 [(1,litI .i64 v),(3,.one (.ptr 3 0)),(8,.one (.ptr 8 0)),(39,.one (.t (eL cF lo))),(40,litI .i64 lo.length),(41,litI .i64 k)]
       [(3,(sN ls n ev).map .t),(8,(cJ m).map .t)]) (fun k=>k<=T) (fun k=>lo.length-k) 0 ?_ (Qk _) ?_
     ·(refine Q7 rfl ?_ ?_ ?_ ?_<;>(try simp only[go_sem])<;>(try simp))
     .intro k hk
      simp only[go_sem];refine QI (fun Yw=>?_) (fun YG=>?_)
      .have KA:k<lo.length:=by omega
       have Y1:QM cF lo k=cF lo[k]:=Q8 KA;have hf:=Kf _ (Qh KA);have PJ:=Rq _ (Qh KA);have o3:=zc5 hf (by omega) (by omega) v;have lx:=hf.lco v;have o4:=zbO (coM lo[k].1 v) (by omega);have p1:=Zs (coM lo[k].1 v);have p2:=ZX (-(coM lo[k].1 v)) m;have p3:=zey (-(coM lo[k].1 v)*m) (-(coM lo[k].1 v));have p4:=zey (-(coM lo[k].1 v)*m - -(coM lo[k].1 v)) m;have o5:=zdJ (-(coM lo[k].1 v)) m (by omega) (by omega);have o6:=zep (-(coM lo[k].1 v)*m) (-(coM lo[k].1 v)) (by omega) (by omega);have o7:=zep (-(coM lo[k].1 v)*m - -(coM lo[k].1 v)) m (by omega) (by omega);have o8:=zeh (-(coM lo[k].1 v)*m - -(coM lo[k].1 v)-m) m (by omega) (by omega);have p5:=zas (-(coM lo[k].1 v)*m - -(coM lo[k].1 v)-m) m;have Re:Int.fdiv (-(coM lo[k].1 v)*m - -(coM lo[k].1 v)-m) m=zcm v m lo[k]:=rfl;have Uy:=zpI (v:=v) (m:=m) (l:=lo[k]) X6 PJ;have PL:=hO k KA;have NC:=HU k KA;have Dh:=hI k;have Uw:∀ i:Nat,(i:Int)<=zcm v m lo[k]->lN (i:Int)<=C:=fun i hi=>by
        have:=zeF (x:=(i:Int)) (y:=coM lo[k].1 v) (by omega);omega
       rw[Re]at o8 p5;generalize zcm v m lo[k]=top at *
       generalize Int.fmod (-(coM lo[k].1 v)*m - -(coM lo[k].1 v)-m) m=fm at *
       generalize -(coM lo[k].1 v)*m - -(coM lo[k].1 v)-m=x3 at *
       generalize -(coM lo[k].1 v)*m - -(coM lo[k].1 v)=x2 at *
       generalize -(coM lo[k].1 v)*m=x1 at *
       generalize -(coM lo[k].1 v)=x0 at *
       generalize coM lo[k].1 v=x at *
       generalize lo[k]=l at *
       simp only[go_sem,Y1,Yw]
       (repeat(refine Qg (by omega) ?_))
       ((repeat(refine Q4 0 rfl ?_;simp only[go_sem]));refine Q3 (o3) rfl ?_;simp only[go_sem];(repeat(refine Q4 0 rfl ?_;simp only[go_sem]));refine Q3 (o4) rfl ?_;simp only[go_sem];(repeat(refine Q4 0 rfl ?_;simp only[go_sem]));refine Q3 (o5) rfl ?_;simp only[go_sem];(repeat(refine Q4 0 rfl ?_;simp only[go_sem]));refine Q3 (o6) rfl ?_;simp only[go_sem];(repeat(refine Q4 0 rfl ?_;simp only[go_sem]));refine Q3 (o7) rfl ?_;simp only[go_sem];(repeat(refine Q4 0 rfl ?_;simp only[go_sem]));refine Q3 (o8) rfl ?_;simp only[go_sem];(repeat(refine Q4 0 rfl ?_;simp only[go_sem]));refine Q3 (w0) rfl ?_;simp only[go_sem];(repeat(refine Q4 0 rfl ?_;simp only[go_sem])));refine QK (fun i:Nat=>stL 89 [(1,litI .i64 v),(3,.one (.ptr 3 0)),(8,.one (.ptr 8 0)),(13,.one (.ptr 13 0)),(15,.one (.ptr 15 0)),(17,.one (.ptr 900017 0)),(39,.one (.t (eL cF lo))),(40,litI .i64 lo.length),(41,litI .i64 k)]
         [(3,(sN ls n ev).map .t),(8,(cJ m).map .t),(13,(cF l).map .t),(15,(cJ top).map .t),(900017,(cJ (i:Int)).map .t)]) (fun i=>i<=I k) (fun i=>M k+1-i) 0 ?_ (Qk _) ?_
       .refine GStep.trans (zc6 (b:=17) (b':=900017) (by simp only[go_sem]) (by decide) (by decide)) ?_
        (refine Q7 rfl ?_ ?_ ?_ ?_<;>(try simp only[go_sem])<;>(try simp))
       .intro i XK
        have SZ:=Dh.1;have p6:=Qn p5 (show _<=max C K+max C K+10 by omega);have li:lN (i:Int)<=max C K+max C K+20:=by
         by_cases c:(i:Int)<=top
         .have:=Uw i c;omega
         .by_cases c2:i=0
          .subst c2;rw[show((0:Nat):Int)=0 from rfl,ZI];omega
          .have:((i-1:Nat):Int)<=top:=(NC (i-1)).1 (by omega)
           have h1:=Uw (i-1) this;have h2:=za6 ((i-1:Nat):Int) 1;rw[show((i-1:Nat):Int)+1=(i:Int) by omega]at h2;omega
        have q1:=zf4 (i:Int) top (by omega) (by omega);simp only[go_sem];refine Q3 q1 rfl ?_;by_cases c:(i:Int)<=top
        .have MC:=(NC i).2 c
         have c':(QY (i:Int) top<=0)=True:=Qf (zi5 c);have liC:=Uw i c;have q2:=zeR (i:Int) (by omega);have fc:Fv n 0 C (Ze (i:Int)):=Fv.const liC;have q3:=ze7 hf fc (by omega) (by omega);have fat:Fv n (C+1) (max K C+1) (QP l (Ze (i:Int))):=hf.add fc (by omega) (by omega);have q4:=zeS fat (by omega) (by omega) (c:=-1) (by omega);have q5:=(zlw ls [QP l (Ze (i:Int)),scF (QP l (Ze (i:Int))) (-1)] n hne (by omega) (show 2<100000000 by decide)).tw (tvs':=[.agg (sS ls n),.one (.seq (some false) [cF (QP l (Ze (i:Int))),cF (scF (QP l (Ze (i:Int))) (-1))])]) (.cons .reflA (.cons (.one .weak) .nil));have hs:=(PL i MC).2;have q6:=zc7 (i:Int) 1 (by omega) (by omega);unfold zbI at hs;generalize ls++[QP l (Ze (i:Int)),scF (QP l (Ze (i:Int))) (-1)]=sy at *
         generalize scF (QP l (Ze (i:Int))) (-1)=g3 at *
         generalize QP l (Ze (i:Int))=g2 at *
         generalize Ze (i:Int)=g1 at *
         cases DG:O k i with
         |some p =>
          rw[DG]at hs;have e1:i=I k:=by
           by_cases e:i=I k
           .exact e
           .exact(Dh.2.1 i (by omega) (by rw[DG];rfl)).elim
          have e2:k=T:=by
           by_cases e:k=T
           .exact e
           .exact(Wv k (by omega) (by omega)).elim
          have e3:o=some p:=by rw[Dk (by omega),<-e2,<-e1,DG]
          rw[e3];simp only[go_sem,c'];refine Q4 0 rfl ?_;simp only[go_sem];refine Q3 q2 rfl ?_;simp only[go_sem];refine Q3 q3 rfl ?_;simp only[go_sem];refine zdG 14 rfl ?_;refine QN.pre [] 0 [0,1,2,3,4,5,6,7] [8,9,10,11,12,13] #[true,true,true,true,true,true,true,true,false,false,false,false,false,false] 6 (by decide +kernel) (by decide +kernel) (by decide +kernel) (by decide +kernel) (by decide +kernel) rfl rfl (by decide +kernel) rfl ?_;simp only[Zn,wbj,wbk,wa2,wa7,wa3];simp only[go_sem];refine Q3 wm rfl ?_;simp only[go_sem];refine Q3 q4 rfl ?_;simp only[go_sem];refine Q3 q5 rfl ?_;simp only[go_sem];refine QN.ord [0,1,2,3,4,5,6,7] 2 [8,9,10,11,12,13] (by decide +kernel) (by decide +kernel) (by decide +kernel) (by decide +kernel) (by decide +kernel) (by decide) ?_;simp only[Zn,wbj,wbk,wa2,wa7,wa3];simp only[go_sem];refine zdH 900000 (.inr rfl) hs rfl (by simp only[go_sem]) (by decide) ?_;simp only[go_sem];exact zqP rfl rfl (zcI fun p hp=>by cases hp;simp only[go_sem]<;>rfl)
         |none =>
          rw[DG]at hs;have e1:i+1<=I k:=by
           by_cases e:i=I k
           .exfalso
            have:=Dh.2.2 (by omega);rw[<-e,DG]at this;cases this
           .omega
          simp only[go_sem,c'];refine Q4 0 rfl ?_;simp only[go_sem];refine Q3 q2 rfl ?_;simp only[go_sem];refine Q3 q3 rfl ?_;simp only[go_sem];refine zdG 14 rfl ?_;refine QN.pre [] 0 [0,1,2,3,4,5,6,7] [8,9,10,11,12,13] #[true,true,true,true,true,true,true,true,false,false,false,false,false,false] 6 (by decide +kernel) (by decide +kernel) (by decide +kernel) (by decide +kernel) (by decide +kernel) rfl rfl (by decide +kernel) rfl ?_;simp only[Zn,wbj,wbk,wa2,wa7,wa3];simp only[go_sem];refine Q3 wm rfl ?_;simp only[go_sem];refine Q3 q4 rfl ?_;simp only[go_sem];refine Q3 q5 rfl ?_;simp only[go_sem];refine QN.ord [0,1,2,3,4,5,6,7] 2 [8,9,10,11,12,13] (by decide +kernel) (by decide +kernel) (by decide +kernel) (by decide +kernel) (by decide +kernel) (by decide) ?_;simp only[Zn,wbj,wbk,wa2,wa7,wa3];simp only[go_sem];refine zdI (.inr rfl) hs rfl ?_;simp only[go_sem];((repeat(refine Q4 0 rfl ?_;simp only[go_sem]));refine Q3 (w1) rfl ?_;simp only[go_sem];(repeat(refine Q4 0 rfl ?_;simp only[go_sem]));refine Q3 (q6) rfl ?_;simp only[go_sem];(repeat(refine Q4 0 rfl ?_;simp only[go_sem])));refine⟨i+1,e1,(by show M k+1-(i+1)<M k+1-i;omega),?_⟩;refine GStep.trans (σ₁:=stL 89 [(1,litI .i64 v),(3,.one (.ptr 3 0)),(8,.one (.ptr 8 0)),(13,.one (.ptr 13 0)),(15,.one (.ptr 15 0)),(17,.one (.ptr 17 0)),(39,.one (.t (eL cF lo))),(40,litI .i64 lo.length),(41,litI .i64 k)]
           [(3,(sN ls n ev).map .t),(8,(cJ m).map .t),(13,(cF l).map .t),(15,(cJ top).map .t),(17,(cJ ((i:Int)+1)).map .t)]) ?_ ?_
          ·(refine Q7 rfl ?_ ?_ ?_ ?_<;>(try simp only[go_sem])<;>(try simp))
          .refine GStep.trans (zc6 (b:=17) (b':=900017) (by simp only[go_sem]) (by decide) (by decide)) ?_
           (refine Q7 rfl ?_ ?_ ?_ ?_<;>(try simp only[go_sem])<;>(try simp))
        .have c':(QY (i:Int) top<=0)=False:=Ql (by rw[zi6 (by omega)];decide)
         have MC:¬i<M k:=fun h=>c ((NC i).1 h)
         have e2:k≠T:=fun e=>by have:=K7 (by omega);rw[<-e]at this;omega
         simp only[go_sem,c'];refine⟨k+1,by omega,(by show lo.length-(k+1)<lo.length-k;omega),?_⟩
         (refine Q7 rfl ?_ ?_ ?_ ?_<;>(try simp only[go_sem,Q6 (n:=(k:Int)+1) (by omega) (by omega)])<;>(try simp))
      .have Nm:T=lo.length:=by omega
       rw[EM Nm];simp only[go_sem];exact zqP rfl rfl (fun b cs hb=>by cases hb)
def zdo(n:Nat):Option (Nat->Int)->List (Nat×List C)
 |some p=>[(102,Q5 cJ (fnG n p))]
 |none=>[]
noncomputable def zeN(S:HX)(pv:Nat->Int)(kk:Nat->Nat)(bf:Nat->Int)(n R T:Nat):Option (Nat->Int):=if T<R then none else some (zfF S pv kk bf n R)
noncomputable def zcV(S:HX)(pv:Nat->Int)(kk:Nat->Nat)(bf:Nat->Int)(n R T:Nat):AV :=
 if T<R then .tup [.one (.t (.seq (some true) [])),.one (.t (.seq (some true) [])),litI .i64 0,.one (.t (eL cR (fnG R (rsF S pv T (zb0 S pv kk bf T) T)))),QO false]
 else .tup [.one (.vec 102 2 0 n),.one (.t (eW (Zw n n S.u))),litI .i64 (kk R),.one (.t (.seq (some true) [])),QO true]
theorem ziM{n:Nat}{o:Option (Nat->Int)}(b:Nat)(h:QB (zdo n o) b≠none):b=102:=by
 cases o with
 |none=>exact(h rfl).elim
 |some p =>
  have h:(if b=102 then some (Q5 cJ (fnG n p))else none)≠none:=h;split at h
  .assumption
  .exact(h rfl).elim
theorem zwq{n:Nat}{o:Option (Nat->Int)}(b:Nat)(cs:List C)(h:QB (zdo n o) b=some cs):∀ c∈cs,inC (QB (zdo n o)) c:=by
 cases o with
 |none=>cases h
 |some p =>
  have h:(if b=102 then some (Q5 cJ (fnG n p))else none)=some cs:=h;split at h
  .cases h
   intro c hc;unfold Q5 at hc;obtain⟨t,_,rfl⟩:=Qp.1 hc;trivial
  .cases h
theorem zwr{S:HX}{pv:Nat->Int}{kk:Nat->Nat}{bf:Nat->Int}{n R T:Nat}:inA (QB (zdo n (zeN S pv kk bf n R T))) (zcV S pv kk bf n R T):=by
 unfold zeN zcV;split
 .exact⟨trivial,trivial,trivial,trivial,trivial,trivial⟩
 .refine⟨?_,trivial,trivial,trivial,trivial,trivial⟩
  show(if 102=102 then some (Q5 cJ (fnG n _))else none)≠none;simp
theorem zws{n:Nat}{o:Option (Nat->Int)}{σ:St}(h:∀ p,o=some p->σ.H 102=some (Q5 cJ (fnG n p))):∀ b cs,QB (zdo n o) b=some cs->σ.H b=some cs:=fun b cs hb=>by
 obtain rfl:=ziM b (by rw[hb];simp);cases o with
 |none=>cases hb
 |some p =>
  have hb:some (Q5 cJ (fnG n p))=some cs:=hb;rw[<-hb];exact h p rfl
theorem zmc{P:Program}{Y:QD}{a b c d e:Nat}{x y z u v:AV}{σ:St}(h1:σ.s a=x)(h2:σ.s b=y)(h3:σ.s c=z)(h4:σ.s d=u)(h5:σ.s e=v)(hX:∀ b cs,Y b=some cs->σ.H b=some cs):zhL P [.tmp a,.tmp b,.tmp c,.tmp d,.tmp e] Y (.tup [x,y,z,u,v]) .ret σ :=
 ⟨.inr rfl,(fun x hx=>by
  rcases wab.1 hx with rfl|hx
  .trivial
  .rcases wab.1 hx with rfl|hx
   .trivial
   .rcases wab.1 hx with rfl|hx
    .trivial
    .rcases wab.1 hx with rfl|hx
     .trivial
     .obtain rfl:=Qr.1 hx;trivial),by rw[<-h1,<-h2,<-h3,<-h4,<-h5];rfl,hX⟩
theorem zxW(a:List (List RI))(b:List RI)(n:Nat){K L B:Nat}(hK:K<=500000000)(hL:L<=500000000)(hB:B<=500000000)(hn:n<=40)(hR:a.length<40000)(ha:∀ row∈a,LR L row)(L5:LR L b)(hb:zfl K (atW a) n a.length)
  {S:HX} (hS:S=(QF (atW a) n a.length a.length).1) {pv:Nat->Int} (VI:pv=pvS (atW a) n a.length) {kk:Nat->Nat} (VJ:kk=fun r=>(QF (atW a) n a.length r).2) (Tb:Nat) (hT:Tb<=a.length)
  (WI:∀ r,r<Tb->¬zcU S pv kk (atR b) r) (Xf:Tb<a.length->zcU S pv kk (atR b) Tb) (UH:LBsol S pv kk (atR b) n a.length Tb K B) :
  zbX prog 83 [.one (eW a),.one (eL cI b),tI .i64 n] (QB (zdo n (zeN S pv kk (atR b) n a.length Tb))) (zcV S pv kk (atR b) n a.length Tb):=by
 obtain⟨R,KO⟩:∃ R,R=a.length:=⟨_,rfl⟩
 have YL:∀ r,(pv r = -1/\kk (r+1)=kk r)\/(pv r=(kk r:Int)/\kk (r+1)=kk r+1):=fun r=>by rw[VI,VJ];exact zt2
 have Wo:∀ r,kk r<=n/\kk r<=r:=fun r=>by rw[VJ];exact ze4 r
 have Vd:kk 0=0:=by rw[VJ];rfl
 have L6:S.n=n/\S.R=a.length:=by rw[hS];exact zc4 _
 refine zcp QC call83 func83 rfl ntmps83 results83 (by simp) (by decide) ?_ ?_ ?_
 .exact zwq
 .exact zwr
 simp only[go_sem];refine ztt a n (.inr rfl) (by omega) (by omega) hn hR ha hb rfl (by simp only[go_sem]<;>rfl) ?_;rw[<-hS,<-VI];rw[<-KO]at UH hT Xf L6 hR ⊢;obtain⟨nS,RS⟩:=L6;obtain⟨H,hH⟩:∃ H,H=S.h:=⟨_,rfl⟩
 obtain⟨Y,hY⟩:∃ Y:Nat->Nat->Int,Y=ZD S pv kk (atR b):=⟨_,rfl⟩
 have O3:Y 0=fun _=>0:=by rw[hY];rfl
 have FC:∀ r,r<=R->∀ j,lN (Y r j)<=B:=fun r hr j=>by rw[hY];exact UH.y r hr j
 have FD:∀ r,Y (r+1)=if pv r<0 then Y r else fun j=>if j=kk r then Int.fdiv (zav S pv kk (atR b) r) (S.h r (kk r))else Y r j:=fun r=>by rw[hY];rfl
 have NW:∀ r,zav S pv kk (atR b) r=atR b r-smI (fun i=>S.h r i*Y r i) (kk r):=fun r=>by rw[hY];rfl
 simp only[go_sem,nS,RS,zah]
 (repeat(refine Qg (by omega) ?_))
 refine QK (fun r:Nat=>stL 127 [(1,.one (.t (eL cI b))),(11,.one (.ptr 900000 0)),(12,.one (.t (eL Yn (fnG R pv)))),(13,.one (.ptr 13 0)),(14,litI .i64 (kk r)),(39,.one (.t (eW (Zw R n S.h)))),(40,litI .i64 R),(41,litI .i64 r)]
  [(900000,[.t (eW (Zw R n S.h)),.t (eW (Zw n n S.u)),.t (eW (Zw n n S.v))]),(13,[.vec 35 2 0 n]),(35,Q5 cJ (fnG n (Y r)))]) (fun r=>r<=Tb) (fun r=>Tb-r) 0 ?_ (Qk _) ?_
 .refine GStep.trans (zar 35 (cs:=Zg n [C.t (T.lit (Value.bool false)),C.t (T.seq (some true) [])]) (by simp only[go_sem]<;>rfl) (zeZ n)) ?_
  rw[Vd,O3]
  (refine Q7 rfl ?_ ?_ ?_ ?_<;>(try simp only[go_sem,QH])<;>(try simp only[Qy,Qv,Qw,Qu]))
  all_goals rfl
 .intro r hr
  simp only[go_sem];refine QI (fun Yw=>?_) (fun YG=>?_)
  .have J8:r<R:=by omega
   obtain⟨row,YE⟩:∃ row:List RI,row=fnG n fun c=>Ys (S.h r c):=⟨_,rfl⟩
   have er:QM cMw (Zw R n S.h) r=cMw row:=by rw[YE];unfold Zw;exact zdf J8
   have YT:row.length=n:=by rw[YE,Zc]
   have Na:LR K row:=by rw[YE];exact zlT (by omega) fun c hc=>UH.h r c J8 hc
   have XQ:=Wo r;obtain⟨dn,Vx⟩:∃ dn,dn=smI (fun i=>S.h r i*Y r i) (kk r):=⟨_,rfl⟩
   have GF:=NW r;rw[<-Vx]at GF;have rd:∀ H:QD,H 16=some [.t (eL cI row)]->H 13=some [.vec 35 2 0 n]->H 35=some (Q5 cJ (fnG n (Y r)))->RdC prog 128 [litI .i64 (kk r),.one (.fn 129 [(16,0),(13,0)])] H (.agg ((cJ dn).map .t)):=fun H h1 h2 h3=>by
    have:=zqf row n (Y r) (kk r) (L:=max K B) (by omega) ⟨Na.1,fun p hp=>by have:=Na.2 p hp;omega⟩ (fun j _=>by have:=FC r (by omega) j;omega) (by omega) (by omega) (by omega) (fun k hk Ka=>zyS row n (Y r) k hk Ka (by omega) (by omega)) (c1:=16) (c2:=13) (c3:=35) (by decide) (by decide) (by decide) h1 h2 h3;rw[zpU (g:=S.h r) (by omega) YE,<-Vx]at this;exact this
   have S5:lN dn<=2*max K B+1000:=by
    have:=zju (f:=fun i=>S.h r i*Y r i) (C:=2*max K B) (m:=kk r) fun i hi=>by
     have h1:=UH.h r i J8 (by omega);have h2:=FC r (by omega) i;have h3:=ZX (S.h r i) (Y r i);omega
    rw[<-Vx]at this;omega
   have Xh:((r:Int)<(R:Int))=True:=Qf (by omega);have ep:QM Yn (fnG R pv) r=Yn (pv r):=zdf J8;have o1:=zp3 b r (L:=L) (by omega) L5 (by omega);have NY:=L5.at r;have o2:=zep (atR b r) dn (by omega) (by omega);rw[<-GF]at o2;have Nb:=UH.left r J8;have o3:=zdF (zav S pv kk (atR b) r) (by omega);generalize YZ:zav S pv kk (atR b) r=le at *
   simp only[go_sem,er,Xh,zah]
   (repeat(refine Qg (by omega) ?_))
   refine zbL (.inr rfl) (rd _ (by simp only[go_sem]<;>rfl) (by simp only[go_sem]<;>rfl) (by simp only[go_sem]<;>rfl)) ?_;simp only[go_sem];((repeat(refine Q4 0 rfl ?_;simp only[go_sem]));refine Q3 (o1) rfl ?_;simp only[go_sem];(repeat(refine Q4 0 rfl ?_;simp only[go_sem]));refine Q3 (o2) rfl ?_;simp only[go_sem];(repeat(refine Q4 0 rfl ?_;simp only[go_sem])));simp only[go_sem,ep,Xh]
   (repeat(refine Qg (by omega) ?_))
   have YJ:zcU S pv kk (atR b) r↔(if pv r<0 then le≠0 else Int.fmod le (S.h r (kk r))≠0):=by unfold zcU;rw[YZ]
   have Ru:zcU S pv kk (atR b) r->r=Tb:=fun h=>waD fun hne=>WI r (by omega) h
   have KP:¬zcU S pv kk (atR b) r->r<Tb:=fun h=>waD fun hne=>by
    obtain rfl:r=Tb:=by omega
    exact h (Xf J8)
   have FE:∀ i,pv i<(n:Int):=fun i=>by
    have h1:=Wo i;have h2:=Wo (i+1);rcases YL i with⟨h,h3⟩|⟨h,h3⟩<;>omega
   have L7:∀ (q0:Rat),lQ q0<=B->LBrs S pv r R q0 B->∀ H:QD,H 900000=some (ZT S)->RdC prog 132 [.one (.ptr 900000 0),.one (.t (eL Yn (fnG R pv))),litI .i64 r,.agg ((cR q0).map .t)] H (.one (.t (eL cR (fnG R (rsF S pv r q0 r))))):=fun q0 h1 h2 H h3=>by
    have:=zt3 S pv r q0 (B:=B) (K:=K) (by omega) (by omega) (by omega) (by omega) (by omega) (fun i _=>by rw[nS];exact FE i) h1 (fun j c hj hc=>UH.h j c (by omega) (by omega)) (by rw[RS];exact h2) h3;rw[RS]at this;exact this
   have S6:ZT S=[.t (eW (Zw R n S.h)),.t (eW (Zw n n S.u)),.t (eW (Zw n n S.v))]:=by unfold ZT;rw[nS,RS]
   have Xy:zb0 S pv kk (atR b) r=if pv r<0 then Rat.divInt 1 (le+le)else Rat.divInt 1 (S.h r (kk r)):=by unfold zb0;rw[YZ]
   have om:Q9 prog 106 [tI .i64 1] (eI 1):=zbP 1 (by decide) (by decide);have l1:lN 1<=1:=zap (by omega);have KQ:=FD r;rw[YZ]at KQ;refine QI (fun hp=>?_) (fun hp=>?_)
   .rw[Qc hp]at YJ Xy KQ
    have Vr:kk (r+1)=kk r:=by rcases YL r with⟨_,h⟩|⟨h,_⟩<;>omega
    simp only[go_sem];((repeat(refine Q4 0 rfl ?_;simp only[go_sem]));refine Q3 (o3) rfl ?_;simp only[go_sem];(repeat(refine Q4 0 rfl ?_;simp only[go_sem])));refine QI (fun hs=>?_) (fun hs=>?_)
    .have Wp:le≠0:=fun h=>hs (wb6.2 h)
     have Vs:=Ru (YJ.2 Wp);have WS:=za6 le le;have o4:=zc7 le le (by omega) (by omega);have o5:=zqD 1 (le+le) (by omega) (by omega);rw[<-Xy]at o5;have YX:zcV S pv kk (atR b) n R Tb = .tup [.one (.t (.seq (some true) [])),.one (.t (.seq (some true) [])),litI .i64 0,.one (.t (eL cR (fnG R (rsF S pv r (zb0 S pv kk (atR b) r) r)))),QO false]:=by
      unfold zcV;rw[Qc (by omega),<-Vs]
     have UI:zeN S pv kk (atR b) n R Tb=none:=Qc (by omega);have NZ:=L7 (zb0 S pv kk (atR b) r) (by rw[Vs];exact UH.oft (by omega)) (by rw[Vs];exact UH.rs (by omega));rw[YX,UI];generalize zb0 S pv kk (atR b) r=q0 at *
     simp only[go_sem];refine Q4 3 rfl ?_;simp only[go_sem];refine Q3 om rfl ?_;simp only[go_sem];refine Q3 o4 rfl ?_;simp only[go_sem];refine Q3 o5 rfl ?_;simp only[go_sem];refine zhk (NZ _ (by simp only[go_sem,nS,RS])) ?_;simp only[go_sem];exact zmc rfl rfl rfl rfl rfl (fun b cs hb=>by cases hb)
    .have Wp:le=0:=wb6.1 (wcP.1 hs)
     have Vs:=KP (fun h=>YJ.1 h Wp);simp only[go_sem];refine⟨r+1,Vs,(by show Tb-(r+1)<Tb-r;omega),?_⟩
     (refine Q7 rfl ?_ ?_ ?_ ?_<;>(try simp only[go_sem,QH,Vr,KQ,Q6 (n:=(r:Int)+1) (by omega) (by omega)])<;>(try simp only[Qy,Qv,Qw,Qu]))
     all_goals rfl
   .rw[Qb hp]at YJ Xy KQ
    have Vr:kk (r+1)=kk r+1:=by rcases YL r with⟨h,_⟩|⟨_,h⟩<;>omega
    have KE:kk r<n:=by have:=Wo (r+1);omega
    have ek:QM cI row (kk r)=cJ (S.h r (kk r)):=by rw[YE,zdf KE,zqY]
    have Xv:((kk r:Int)<(n:Int))=True:=Qf (by omega);have S7:=UH.h r (kk r) J8 KE;have o4:=zeh le (S.h r (kk r)) (by omega) (by omega);simp only[go_sem];refine Q4 0 rfl ?_;simp only[go_sem,ek,Xv,YT,ZN]
    (repeat(refine Qg (by omega) ?_))
    ((repeat(refine Q4 0 rfl ?_;simp only[go_sem,ek,Xv,YT,ZN]));refine Q3 (o4) rfl ?_;simp only[go_sem];(repeat(refine Q4 0 rfl ?_;simp only[go_sem,ek,Xv,YT,ZN])));have Xu:=zas le (S.h r (kk r));have S8:lN (le.fmod (S.h r (kk r)))<=max (lN le) (lN (S.h r (kk r))):=zwp le (S.h r (kk r));have o6:=zdF (le.fmod (S.h r (kk r))) (by omega);refine Q3 o6 rfl ?_;simp only[go_sem];refine QI (fun hs=>?_) (fun hs=>?_)
    .have Wp:le.fmod (S.h r (kk r))≠0:=fun h=>hs (wb6.2 h)
     have Vs:=Ru (YJ.2 Wp);have o5:=zqD 1 (S.h r (kk r)) (by omega) (by omega);rw[<-Xy]at o5;have YX:zcV S pv kk (atR b) n R Tb = .tup [.one (.t (.seq (some true) [])),.one (.t (.seq (some true) [])),litI .i64 0,.one (.t (eL cR (fnG R (rsF S pv r (zb0 S pv kk (atR b) r) r)))),QO false]:=by
      unfold zcV;rw[Qc (by omega),<-Vs]
     have UI:zeN S pv kk (atR b) n R Tb=none:=Qc (by omega);have NZ:=L7 (zb0 S pv kk (atR b) r) (by rw[Vs];exact UH.oft (by omega)) (by rw[Vs];exact UH.rs (by omega));rw[YX,UI];generalize zb0 S pv kk (atR b) r=q0 at *
     simp only[go_sem];refine Q4 3 rfl ?_;simp only[go_sem]
     (repeat(refine Qg (by omega) ?_))
     refine Q3 om rfl ?_;simp only[go_sem,ek,Xv,YT,ZN]
     (repeat(refine Qg (by omega) ?_))
     refine Q3 o5 rfl ?_;simp only[go_sem];refine zhk (NZ _ (by simp only[go_sem,nS,RS])) ?_;simp only[go_sem];exact zmc rfl rfl rfl rfl rfl (fun b cs hb=>by cases hb)
    .have Wp:le.fmod (S.h r (kk r))=0:=wb6.1 (wcP.1 hs)
     have Vs:=KP (fun h=>YJ.1 h Wp);have cl:=fun g=>zaB (n:=n) (g:=g)
     have sd:=zbD (n:=n) (g:=Y r) KE (q:=le.fdiv (S.h r (kk r)));rw[<-KQ]at sd;have hw:IntKind.i64.wrap ((kk r:Int)+1)=((kk r+1:Nat):Int):=by rw[Q6 (by omega) (by omega)];omega
     simp only[go_sem,Xv,cl,sd,hw]
     (repeat(refine Qg (by omega) ?_))
     refine⟨r+1,Vs,(by show Tb-(r+1)<Tb-r;omega),?_⟩
     (refine Q7 rfl ?_ ?_ ?_ ?_<;>(try simp only[go_sem,QH,Vr,Q6 (n:=(r:Int)+1) (by omega) (by omega)])<;>(try simp only[Qy,Qv,Qw,Qu]))
     all_goals rfl
  .obtain rfl:r=Tb:=by omega
   obtain rfl:r=R:=by omega
   have YX:zcV S pv kk (atR b) n r r = .tup [.one (.vec 102 2 0 n),.one (.t (eW (Zw n n S.u))),litI .i64 (kk r),.one (.t (.seq (some true) [])),QO true]:=by
    unfold zcV;rw[Qb (wa8 _)]
   have UI:zeN S pv kk (atR b) n r r=some (zfF S pv kk (atR b) n r):=Qb (wa8 _);rw[YX,UI];obtain⟨X,hX⟩:∃ X,X=zfF S pv kk (atR b) n r:=⟨_,rfl⟩
   have O4:∀ i,X i=smI (fun j=>S.u i j*Y r j) n:=fun i=>by rw[hX,hY];rfl
   rw[<-hX];simp only[go_sem]
   (repeat(refine Qg (by omega) ?_))
   refine QK (fun i:Nat=>stL 127 [(11,.one (.ptr 900000 0)),(13,.one (.ptr 13 0)),(14,litI .i64 (kk r)),(21,.one (.vec 102 2 0 n)),(106,.one (.t (eW (Zw n n S.u)))),(107,litI .i64 n),(108,litI .i64 i)]
    [(900000,[.t (eW (Zw r n S.h)),.t (eW (Zw n n S.u)),.t (eW (Zw n n S.v))]),(13,[.vec 35 2 0 n]),(35,Q5 cJ (fnG n (Y r))),(102,Q5 cJ (fnG n fun j=>if j<i then X j else 0))]) (fun i=>i<=n) (fun i=>n-i) 0 ?_ (Qk _) ?_
   .refine GStep.trans (zar 102 (cs:=Zg n [C.t (T.lit (Value.bool false)),C.t (T.seq (some true) [])]) (by simp only[go_sem]<;>rfl) (zeZ n)) ?_
    have e0:(fun j=>if j<0 then X j else(0:Int))=fun _=>0:=by funext j;rw[Qb (waO _)]
    rw[e0]
    (refine Q7 rfl ?_ ?_ ?_ ?_<;>(try simp only[go_sem,QH,zah])<;>(try simp only[Qy,Qv,Qw,Qu]))
    all_goals rfl
   .intro i hi
    simp only[go_sem];refine QI (fun Uw=>?_) (fun Nc=>?_)
    .have JF:i<n:=by omega
     obtain⟨row,YE⟩:∃ row:List RI,row=fnG n fun c=>Ys (S.u i c):=⟨_,rfl⟩
     have er:QM cMw (Zw n n S.u) i=cMw row:=by rw[YE];unfold Zw;exact zdf JF
     have YT:row.length=n:=by rw[YE,Zc]
     have Na:LR K row:=by rw[YE];exact zlT (by omega) fun c hc=>UH.u i c JF hc
     have rd:∀ H:QD,H 23=some [.t (eL cI row)]->H 13=some [.vec 35 2 0 n]->H 35=some (Q5 cJ (fnG n (Y r)))->RdC prog 128 [litI .i64 n,.one (.fn 134 [(23,0),(13,0)])] H (.agg ((cJ (X i)).map .t)):=fun H h1 h2 h3=>by
      have:=zqf row n (Y r) n (L:=max K B) (by omega) ⟨Na.1,fun p hp=>by have:=Na.2 p hp;omega⟩ (fun j _=>by have:=FC r (Qd _) j;omega) (by omega) (by omega) (by omega) (fun k hk Ka=>zyT row n (Y r) k hk Ka (by omega) (by omega)) (c1:=23) (c2:=13) (c3:=35) (by decide) (by decide) (by decide) h1 h2 h3;rw[zpU (g:=S.u i) (by omega) YE,<-O4]at this;exact this
     have cl:=fun g=>zaB (n:=n) (g:=g)
     have sd:=zbD (n:=n) (g:=fun j=>if j<i then X j else 0) JF (q:=X i);have sde:fnG n (fun v=>if v=i then X i else if v<i then X v else 0)=fnG n (fun v=>if v<i+1 then X v else 0):=Yk fun v hv=>by
      by_cases e1:v=i
      .rw[Qc e1,Qc (by omega),e1]
      .rw[Qb e1]
       by_cases e2:v<i
       .rw[Qc e2,Qc (by omega)]
       .rw[Qb e2,Qb (by omega)]
     rw[sde]at sd;simp only[go_sem,er,Uw,zah]
     (repeat(refine Qg (by omega) ?_))
     refine zbL (.inr rfl) (rd _ (by simp only[go_sem]<;>rfl) (by simp only[go_sem]<;>rfl) (by simp only[go_sem]<;>rfl)) ?_;simp only[go_sem,Uw,cl,sd]
     (repeat(refine Qg (by omega) ?_))
     refine⟨i+1,JF,(by show n-(i+1)<n-i;omega),?_⟩
     (refine Q7 rfl ?_ ?_ ?_ ?_<;>(try simp only[go_sem,QH,Q6 (n:=(i:Int)+1) (by omega) (by omega)])<;>(try simp only[Qy,Qv,Qw,Qu]))
     all_goals rfl
    .obtain rfl:i=n:=by omega
     simp only[go_sem];refine Q4 0 rfl ?_;simp only[go_sem];have e1:fnG i (fun j=>if j<i then X j else 0)=fnG i X:=Yk fun v hv=>Qc hv
     rw[e1];exact zmc rfl rfl rfl rfl rfl (zws fun p hp=>by cases hp;simp only[go_sem]<;>rfl)
end Go.Proofs.YtlgjjcmljmjenaaGreat
