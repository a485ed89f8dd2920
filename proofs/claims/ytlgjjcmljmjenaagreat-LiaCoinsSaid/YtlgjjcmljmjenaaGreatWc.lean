/- At every input the call answers true and leaves its arguments as they were; no conditions. -/
import Derived.Test.YtlgjjcmljmjenaaGreatWb
import Derived.Test.YtlgjjcmljmjenaaGreatUc
set_option linter.unusedSimpArgs false
set_option linter.unusedVariables false
set_option maxRecDepth 100000
set_option maxHeartbeats 64000000
namespace Go.Proofs.YtlgjjcmljmjenaaGreat
open Go Go.Abs Go.Proofs.Tryz
theorem ztR{n C B:Nat}(hn:n<=4)(hC:8<=C)(hB:B<=400000000):∀ (l:Nat),l<=40->∀ (ls:List Fm) (K:Nat),ls≠[]->ls.length<=8000-l->4*C+K+6+l*(4*C+14)<=B->(∀ f∈ls,Fv n C K f)->zgN ls n B l:=by
 intro l
 induction l using Nat.strongRecOn with
 |ind l ih =>
  intro hl ls K hne KM hK YY;cases l with
  |zero=>exact zsL ls n B
  |succ l=>exact zsM l (by omega) hn hC (fun l1 VZ ls K a b c d=>ih l1 (by omega) (by omega) ls K a b c d) ls K hne KM hB hK YY
abbrev SoC(f:FuncId)(args:List TV)(n:Nat)(o:Option (Nat->Int)):Prop:=zbW prog f args (Q9 (zdy n o)) (solA n o)
theorem zdK{m:Nat}{f:FuncId}{ys:List AV}{args:List TV}{n:Nat}{p:Nat->Int}{σ:St}{K:AV->St->Prop}(d:Nat)(hm:m=1\/m=2)(h:SoC f args n (some p))(Xc:ys=args.map emb)(hn:σ.H d=none)(hd:d<PIN)
  (hK:K (.tup [.one (.vec d 2 0 n),QO true]) (σ.withH (upd σ.H d (some (Q5 cJ (fnG n p)))))):ZM prog m f ys σ K:=by
 refine zfi (H':=upd σ.H d (some (Q5 cJ (fnG n p)))) (fun _=>d) hm h Xc (fun b hb=>⟨hn,hd⟩) (fun b b' h1 h2 _=>(zcw b h1).trans (zcw b' h2).symm) (fun b cs hb=>?_) (fun x hb=>?_) hK
 .obtain rfl:=zcw b (by rw[hb];simp)
  have hb:some (Q5 cJ (fnG n p))=some cs:=hb;cases hb
  show(if d=d then some _ else _)=_;rw[Qc rfl];congr 1;unfold Q5;rw[wah];rfl
 .have:x≠d:=fun e=>hb 900000 (by show(if 900000=900000 then _ else _)≠none;simp) e.symm
  show(if x=d then _ else _)=_;rw[Qb this]
theorem zdL{m:Nat}{f:FuncId}{ys:List AV}{args:List TV}{n:Nat}{σ:St}{K:AV->St->Prop}(hm:m=1\/m=2)(h:SoC f args n none)(Xc:ys=args.map emb)
  (hK:K (.tup [.one (.t (.seq (some true) [])),QO false]) (σ.withH σ.H)):ZM prog m f ys σ K :=
 zfi (H':=σ.H) id hm h Xc (fun b hb=>(hb rfl).elim) (fun b b' h1 _ _=>(h1 rfl).elim) (fun b cs hb=>by cases hb) (fun x _=>rfl) hK
theorem zbn{P:Program}{Y:QE}{x y:AV}{σ:St}(h4:σ.s 2=x)(h5:σ.s 3=y)(hX:∀ b cs,Y b=some cs->σ.H b=some cs):zhU P [.tmp 2,.tmp 3] Y (.tup [x,y]) .ret σ :=
 ⟨.inr rfl,(fun x hx=>by
  rcases wad.1 hx with rfl|hx
  .trivial
  .obtain rfl:=Qr.1 hx;trivial),by rw[<-h4,<-h5];rfl,hX⟩
theorem zqJ{P:Program}{Y:QE}{x y:AV}{σ:St}(h4:σ.s 6=x)(h5:σ.s 7=y)(hX:∀ b cs,Y b=some cs->σ.H b=some cs):zhU P [.tmp 6,.tmp 7] Y (.tup [x,y]) .ret σ :=
 ⟨.inr rfl,(fun x hx=>by
  rcases wad.1 hx with rfl|hx
  .trivial
  .obtain rfl:=Qr.1 hx;trivial),by rw[<-h4,<-h5];rfl,hX⟩
theorem zdS{n:Nat}{o:Option (Nat->Int)}:inA (Q9 (zdy n o)) (solA n o):=zff
def zbq(ls:List Fm)(n B:Nat):Prop:=∃ o,zbV ls n B o/\SoC 31 [.agg (sS ls n)] n o
def SpT(ls:List Fm)(n v B:Nat)(o:Option (Nat->Int)):Prop:=match o with
 |some p=>Sat ls p/\∀ v,v<n->lN (p v)<=B
 |none=>∀ l∈QU ls v,∀ i:Int,0<=i->i<=zcm v (zai v (QR ls v)) l->∀ p,¬Sat (ls++[QN l (Zd i),scF (QN l (Zd i)) (-1)]) p
def zmG(ls:List Fm)(n:Nat)(ev:List Fm)(v B:Nat):Prop:=∃ o,SpT ls n v B o/\SoC 99 [.agg (sN ls n ev),tI .i64 v,.agg (sB (QU ls v) (QR ls v) (ZH ls v))] n o
def cE(ls:List Fm)(i:Nat):Int:=zfH i (QU ls i) (QR ls i)
def zbd(ls:List Fm):Nat->Option Nat
 |0=>none
 |i+1=>if 0<(QU ls i).length+(QR ls i).length then(match zbd ls i with
  |none=>some i
  |some v=>if cE ls i<cE ls v then some i else some v)else zbd ls i
theorem zit(ls:List Fm):∀ n,match zbd ls n with
  |none=>∀ i,i<n->(QU ls i).length+(QR ls i).length=0
  |some v=>v<n/\0<(QU ls v).length+(QR ls v).length
 |0=>fun i hi=>Qn hi (wa5 _)
 |n+1=>by
  have ih:=zit ls n;rw[zbd];by_cases c:0<(QU ls n).length+(QR ls n).length
  .rw[Qc c]
   cases h:zbd ls n with
   |none=>exact⟨waO n,c⟩
   |some v =>
    rw[h]at ih;show match (if cE ls n<cE ls v then some n else some v)with|none=>_|some v=>_
    by_cases c2:cE ls n<cE ls v
    .rw[Qc c2];exact⟨waO n,c⟩
    .rw[Qb c2];exact⟨by have:=ih.1;omega,ih.2⟩
  .rw[Qb c]
   cases h:zbd ls n with
   |none =>
    rw[h]at ih;intro i hi;by_cases e:i=n
    .rw[e];omega
    .exact ih i (by omega)
   |some v=>rw[h]at ih;exact⟨by have:=ih.1;omega,ih.2⟩
def pkI:Option Nat->Int
 |none=>-1
 |some v=>v
def pkC(ls:List Fm):Option Nat->List Go.Abs.C
 |none=>[.t (.seq (some true) []),.t (.seq (some true) []),.t (.seq (some true) [])]
 |some v=>(sB (QU ls v) (QR ls v) (ZH ls v)).map .t
theorem zjn(ls:List Fm)(v:Nat):(QU ls v).length<=ls.length:=wdX _ _
theorem zi6(ls:List Fm)(v:Nat):(QR ls v).length<=ls.length:=wdX _ _
theorem zwS{v n C K B:Nat}{lo hi:List Fm}{p:Nat->Int}(hn:n<=1000000)(hv:v<n)(h1:∀ f∈lo,Fv n C K f)(h2:∀ f∈hi,Fv n C K f)(hp:∀ v,v<n->lN (p v)<=B):lN (zh9 (frL v p lo) (toL v p hi))<=max C K+B+n+1:=by
 have Vj:∀ f,Fv n C K f->lN (atF f (Zt p v 0))<=max C K+B+n:=fun f hf=>by
  have YK:=hf.bd (L:=max C K) hn (wbT _ _) (wbO _ _);have h:=zh4 YK (p:=fun u=>if u<n then Zt p v 0 u else 0) (K:=B) (fun u=>by
   show lN (if u<n then(if u=v then 0 else p u)else 0)<=B;split
   .split
    .rw[ZG];omega
    .exact hp u ‹_›
   .rw[ZG];omega) f.1.length
  rw[waa]at h;have e:atF f (fun u=>if u<n then Zt p v 0 u else 0)=atF f (Zt p v 0):=zgu fun m hm=>Qc (hf.lt m hm)
  have h3:=YK.1;rw[<-e];show lN (f.2+atM f.1 _)<=_;omega
 have f1:=zen v p lo;have f2:=zeo v p hi;unfold zh9;cases hf:frL v p lo with
 |some m =>
  rw[hf]at f1;obtain⟨⟨a,ha,e⟩,_⟩:=f1;have h3:=zas (-(atF a (Zt p v 0))) (-(coM a.1 v));have h4:=Vj a (h1 a ha);rw[Zw]at h3;show lN m<=_;rw[e];unfold frA;rw[Zw];omega
 |none =>
  cases ht:toL v p hi with
  |some m =>
   rw[ht]at f2;obtain⟨⟨a,ha,e⟩,_⟩:=f2;have h3:=zas (-(atF a (Zt p v 0))) (coM a.1 v);have h4:=Vj a (h2 a ha);rw[Zw]at h3;show lN m<=_;rw[e];unfold toA;omega
  |none=>show lN 0<=_;rw[ZG];omega
theorem zr2(ls ev:List Fm){n C K B B2 v:Nat}(hn:n<=4)(hC:max C K<=500000000)(hB:B<=3000000000)(Fb:max C K+B+n+1<=B2)(hl:ls.length<=9000)(h:∀ f∈ls,Fv n C K f)(hv:zbd ls n=some v)
  (EH:zbq (shV (!decide (exV v (QU ls v) (QR ls v))) v (QU ls v) (QR ls v) (ZH ls v)) n B) (Rb:zbq (shV false v (QU ls v) (QR ls v) (ZH ls v)) n B) (PC:zmG ls n ev v B2) :
  ∃ o,zbV ls n B2 o/\SoC 54 [.agg (sN ls n ev)] n o:=by
 have Wn:=zit ls n;rw[hv]at Wn;have MH:v<n:=Wn.1;have hw:∀ f∈ls,WF f:=fun f hf=>(h f hf).wf
 have UJ:∀ f∈QU ls v,Fv n C K f:=fun f hf=>h f (zbw.1 hf).1
 have V2:∀ f∈QR ls v,Fv n C K f:=fun f hf=>h f (zcb.1 hf).1
 have l1:=zjn ls v;have l2:=zi6 ls v;have h3:=zkF ls v;have VI:((QU ls v).length+1)*(QR ls v).length<=9001*9000:=wax (by omega) (by omega);have oE:=zoi v (QU ls v) (QR ls v) (ZH ls v) (n:=n) (C:=C) (K:=K) (by omega) (by omega) (by omega) (by omega) (by omega) UJ V2;have oS:=fun d=>ztk d v (QU ls v) (QR ls v) (ZH ls v) (n:=n) (C:=C) (K:=K) (by omega) (by omega) (by omega) (by omega) (by omega) UJ V2
 obtain⟨o1,Uj,UC⟩:=EH;obtain⟨o2,WD,Ki⟩:=Rb;obtain⟨o3,KF,Rw⟩:=PC;obtain⟨eb,Fc⟩:∃ eb,eb=decide (exV v (QU ls v) (QR ls v)):=⟨_,rfl⟩
 rw[<-Fc]at UC Uj oE;have walk:∀ o,((∃ p p2,SoC 31 [.agg (sS (shV (!eb) v (QU ls v) (QR ls v) (ZH ls v)) n)] n (some p)/\Ze prog 98 [.agg ((sB (QU ls v) (QR ls v) (ZH ls v)).map .t),litI .i64 v,.one (.vec PIN 2 0 n)] (xV n p) (QO true) (xV n p2)/\o=some p2)\/(SoC 31 [.agg (sS (shV (!eb) v (QU ls v) (QR ls v) (ZH ls v)) n)] n none/\((eb=true/\o=none)\/(eb=false/\((SoC 31 [.agg (sS (shV (false) v (QU ls v) (QR ls v) (ZH ls v)) n)] n none/\o=none)\/∃ q,SoC 31 [.agg (sS (shV (false) v (QU ls v) (QR ls v) (ZH ls v)) n)] n (some q)/\SoC 99 [.agg (sN ls n ev),tI .i64 v,.agg (sB (QU ls v) (QR ls v) (ZH ls v))] n o)))))->SoC 54 [.agg (sN ls n ev)] n o:=by
  intro o XC;have oS1:=oS !eb;have oS2:=oS false;refine zcq QB call54 func54 rfl ntmps54 results54 (by simp) (by decide) ?_ ?_ ?_
  .exact zby
  .exact zdS
  .simp only[go_sem]
   refine QJ (fun i:Nat=>stL 92 [(1,.one (.ptr 1 0)),(4,litI .i64 (pkI (zbd ls i))),(5,.one (.ptr 5 0)),(16,litI .i64 n),(17,litI .i64 i)]
     [(1,(sN ls n ev).map .t),(5,pkC ls (zbd ls i))]) (fun i=>i<=n) (fun i=>n-i) 0 ?_ (Qk _) ?_
   ·(refine Q6 rfl ?_ ?_ ?_ ?_<;>(try simp only[go_sem,pkI,pkC,show zbd ls 0=none from rfl])<;>(try simp))
   .intro i hi
    simp only[go_sem];refine QI (fun Y1=>?_) (fun YI=>?_)
    .have Xw:i<n:=by omega
     have K4:=zyS i ls n (n:=n) (C:=C) (K:=K) (by omega) (by omega) (by omega) (by omega) h;have Jk:=zit ls i;have HY:∀ f∈QU ls i,Fv n C K f:=fun f hf=>h f (zbw.1 hf).1
     have HZ:∀ f∈QR ls i,Fv n C K f:=fun f hf=>h f (zcb.1 hf).1
     have li1:=zjn ls i;have li2:=zi6 ls i;have MI:=zpo i (QU ls i) (QR ls i) (ZH ls i) (n:=n) (C:=C) (K:=K) (by omega) (by omega) (by omega) (by omega) (by omega) HY HZ;have Y0:zbd ls (i+1)=if 0<(QU ls i).length+(QR ls i).length then(match zbd ls i with
      |none=>some i
      |some v=>if cE ls i<cE ls v then some i else some v)else zbd ls i:=rfl
     have Ke:IntKind.wrap .i64 (((QU ls i).length:Int)+(QR ls i).length)=(((QU ls i).length+(QR ls i).length:Nat):Int):=by rw[Q4 (by omega) (by omega)];omega
     have PD:cE ls i=zfH i (QU ls i) (QR ls i):=rfl;obtain⟨S0,GA⟩:∃ S0,S0=(QU ls i).length+(QR ls i).length:=⟨_,rfl⟩
     rw[<-GA]at Ke Y0;cases DO:zbd ls i with
     |none =>
      rw[DO]at Y0;by_cases c:0<S0
      .rw[Qc c]at Y0
       have Y0:zbd ls (i+1)=some i:=Y0;have c':((0:Int)<(S0:Int))=True:=Qh (by omega);simp only[go_sem,pkI,pkC];refine Q2 K4 rfl ?_;simp only[go_sem];refine Q3 0 rfl ?_;simp only[go_sem,Ke,c'];refine Q3 0 rfl ?_;simp only[go_sem];refine⟨i+1,Xw,(by show n-(i+1)<n-i;omega),?_⟩
       (refine Q6 rfl ?_ ?_ ?_ ?_<;>(try simp only[go_sem,Y0,Q4 (n:=(i:Int)+1) (by omega) (by omega)])<;>(try simp))
      .rw[Qb c]at Y0
       have c':((0:Int)<(S0:Int))=False:=Ql (by omega);simp only[go_sem,pkI,pkC];refine Q2 K4 rfl ?_;simp only[go_sem];refine Q3 0 rfl ?_;simp only[go_sem,Ke,c'];refine⟨i+1,Xw,(by show n-(i+1)<n-i;omega),?_⟩
       (refine Q6 rfl ?_ ?_ ?_ ?_<;>(try simp only[go_sem,Y0,Q4 (n:=(i:Int)+1) (by omega) (by omega)])<;>(try simp))
     |some u =>
      rw[DO]at Y0 Jk;have RW:=Jk.1;have La:∀ f∈QU ls u,Fv n C K f:=fun f hf=>h f (zbw.1 hf).1
      have Lb:∀ f∈QR ls u,Fv n C K f:=fun f hf=>h f (zcb.1 hf).1
      have lu1:=zjn ls u;have lu2:=zi6 ls u;have MJ:=zpo u (QU ls u) (QR ls u) (ZH ls u) (n:=n) (C:=C) (K:=K) (by omega) (by omega) (by omega) (by omega) (by omega) La Lb;have Lc:cE ls u=zfH u (QU ls u) (QR ls u):=rfl;have Y0:zbd ls (i+1)=if 0<S0 then(if cE ls i<cE ls u then some i else some u)else some u:=Y0
      rw[PD,Lc]at Y0;have u0:((u:Int)<0)=False:=Ql (by omega);by_cases c:0<S0
      .rw[Qc c]at Y0
       have c':((0:Int)<(S0:Int))=True:=Qh (by omega);by_cases d:zfH i (QU ls i) (QR ls i)<zfH u (QU ls u) (QR ls u)
       .rw[Qc d]at Y0
        have d':=Qh d;simp only[go_sem,pkI,pkC];refine Q2 K4 rfl ?_;simp only[go_sem];refine Q3 0 rfl ?_;simp only[go_sem,Ke,c',u0];refine Q2 MI rfl ?_;simp only[go_sem];refine Q2 MJ rfl ?_;simp only[go_sem,d'];refine Q3 0 rfl ?_;simp only[go_sem];refine⟨i+1,Xw,(by show n-(i+1)<n-i;omega),?_⟩
        (refine Q6 rfl ?_ ?_ ?_ ?_<;>(try simp only[go_sem,Y0,Q4 (n:=(i:Int)+1) (by omega) (by omega)])<;>(try simp))
       .rw[Qb d]at Y0
        have d':=Ql d;simp only[go_sem,pkI,pkC];refine Q2 K4 rfl ?_;simp only[go_sem];refine Q3 0 rfl ?_;simp only[go_sem,Ke,c',u0];refine Q2 MI rfl ?_;simp only[go_sem];refine Q2 MJ rfl ?_;simp only[go_sem,d'];refine⟨i+1,Xw,(by show n-(i+1)<n-i;omega),?_⟩
        (refine Q6 rfl ?_ ?_ ?_ ?_<;>(try simp only[go_sem,Y0,Q4 (n:=(i:Int)+1) (by omega) (by omega)])<;>(try simp))
      .rw[Qb c]at Y0
       have c':((0:Int)<(S0:Int))=False:=Ql (by omega);simp only[go_sem,pkI,pkC];refine Q2 K4 rfl ?_;simp only[go_sem];refine Q3 0 rfl ?_;simp only[go_sem,Ke,c'];refine⟨i+1,Xw,(by show n-(i+1)<n-i;omega),?_⟩
       (refine Q6 rfl ?_ ?_ ?_ ?_<;>(try simp only[go_sem,Y0,Q4 (n:=(i:Int)+1) (by omega) (by omega)])<;>(try simp))
    .obtain rfl:i=n:=by omega
     rw[hv];simp only[go_sem,pkI,pkC];refine Q2 oE rfl ?_;simp only[go_sem];refine zde 15 rfl ?_;refine QK.pre [] 0 [0,1,2,3,4,5,6,7,8] [9,10,11,12,13,14] #[true,true,true,true,true,true,true,true,true,false,false,false,false,false,false] 6 (by decide +kernel) (by decide +kernel) (by decide +kernel) (by decide +kernel) (by decide +kernel) rfl rfl (by decide +kernel) rfl ?_;simp only[Zq,wbh,wbi,waZ,wa6,wa0];simp only[go_sem];refine Q2 oS1 rfl ?_;simp only[go_sem];refine QK.ord [0,1,2,3,4,5,6,7,8] 2 [9,10,11,12,13,14] (by decide +kernel) (by decide +kernel) (by decide +kernel) (by decide +kernel) (by decide +kernel) (by decide) ?_;simp only[Zq,wbh,wbi,waZ,wa6,wa0];simp only[go_sem];rcases XC with⟨p,p2,UC,YJ,rfl⟩|⟨UC,XC⟩
     .refine zdK 900000 (.inr rfl) UC rfl (by simp only[go_sem]) (by decide) ?_
      simp only[go_sem];refine zwW 900000 (.inr rfl) YJ rfl (Qs.2 ⟨(fun c hc=>by obtain⟨t,_,rfl⟩:=Qp.1 hc;trivial),Qs.2 ⟨trivial,Qs.2 ⟨xV_p,fun x hx=>by cases hx⟩⟩⟩) (by simp only[go_sem]<;>rfl) ?_;simp only[go_sem];exact zbn rfl rfl (zcM fun p hp=>by cases hp;simp only[go_sem]<;>rfl)
     refine zdL (.inr rfl) UC rfl ?_;rcases XC with⟨rfl,rfl⟩|⟨rfl,XC⟩
     .simp only[go_sem]
      exact zbn rfl rfl (fun b cs hb=>by cases hb)
     simp only[go_sem];refine zde 13 rfl ?_;refine QK.pre [] 0 [0,1,2,3,4,5,6] [7,8,9,10,11,12] #[true,true,true,true,true,true,true,false,false,false,false,false,false] 6 (by decide +kernel) (by decide +kernel) (by decide +kernel) (by decide +kernel) (by decide +kernel) rfl rfl (by decide +kernel) rfl ?_;simp only[Zq,wbh,wbi,waZ,wa6,wa0];simp only[go_sem];refine Q2 oS2 rfl ?_;simp only[go_sem];refine QK.ord [0,1,2,3,4,5,6] 2 [7,8,9,10,11,12] (by decide +kernel) (by decide +kernel) (by decide +kernel) (by decide +kernel) (by decide +kernel) (by decide) ?_;simp only[Zq,wbh,wbi,waZ,wa6,wa0];simp only[go_sem];rcases XC with⟨Ki,rfl⟩|⟨q,Ki,Rw⟩
     .refine zdL (.inr rfl) Ki rfl ?_
      simp only[go_sem];exact zbn rfl rfl (fun b cs hb=>by cases hb)
     refine zdK 900001 (.inr rfl) Ki rfl (by simp only[go_sem]) (by decide) ?_;simp only[go_sem];cases o with
     |none =>
      refine zdL (.inr rfl) Rw rfl ?_;simp only[go_sem];exact zbn rfl rfl (fun b cs hb=>by cases hb)
     |some p =>
      refine zdK 900000 (.inr rfl) Rw rfl (by simp only[go_sem]) (by decide) ?_;simp only[go_sem];exact zbn rfl rfl (zcM fun p hp=>by cases hp;simp only[go_sem]<;>rfl)
 have XU:=fun(p:Nat->Int) (d:Bool) (hs:Sat (shV d v (QU ls v) (QR ls v) (ZH ls v)) p) (f:Fm) (hf:f∈ZH ls v)=>hs f (zgm.2 (.inl hf))
 cases o1 with
 |some p =>
  have Uj:=Uj;rw[Fc]at Uj;have YB:=zpC.2 (zyg hw Uj.1);have YJ:=zuT v (QU ls v) (QR ls v) (ZH ls v) p (n:=n) (C:=C) (K:=K) (B:=B) (by omega) (by omega) (by omega) MH (by omega) (by omega) UJ V2 Uj.2;rw[YB]at YJ;have hs:=ztI (v:=v) hw (XU p _ Uj.1) (zpC.1 YB);have YK:∀ u,u<n->lN (Zt p v (zh9 (frL v p (QU ls v)) (toL v p (QR ls v))) u)<=B2:=fun u hu=>by
   show lN (if u=v then _ else p u)<=B2;split
   .exact Qo (zwS (n:=n) (C:=C) (K:=K) (B:=B) (by omega) MH UJ V2 Uj.2) Fb
   .exact Qo (Uj.2 u hu) (by omega)
  exact⟨some _,⟨hs,YK⟩,walk _ (.inl ⟨p,_,UC,YJ,rfl⟩)⟩
 |none =>
  by_cases he:exV v (QU ls v) (QR ls v)
  .have e1:eb=true:=by rw[Fc];exact waC he
   refine⟨none,fun p hp=>Uj p ?_,walk _ (.inr ⟨UC,.inl ⟨e1,rfl⟩⟩)⟩;rw[e1];exact zpK hw hp
  .have e1:eb=false:=by rw[Fc];exact wan he
   cases o2 with
   |none=>exact⟨none,fun p hp=>WD p (zpK hw hp),walk _ (.inr ⟨UC,.inr ⟨e1,.inl ⟨Ki,rfl⟩⟩⟩)⟩
   |some q =>
    refine⟨o3,?_,walk _ (.inr ⟨UC,.inr ⟨e1,.inr ⟨q,Ki,Rw⟩⟩⟩)⟩;cases o3 with
    |some p=>exact KF
    |none =>
     intro p hp;rw[e1]at Uj;obtain⟨l,hl,i,h0,h1,h2⟩:=zvc hw hp (Uj p);exact KF l hl i h0 h1 p (Sat.app.2 ⟨hp,fun f hf=>by
      rcases wad.1 hf with rfl|hf
      .omega
      .rw[Qr.1 hf,zch,h2];omega⟩)
def zbI(ls:List Fm)(l:Fm)(i:Int):List Fm:=ls++[QN l (Zd i),scF (QN l (Zd i)) (-1)]
theorem zsT{v i:Nat}{l:List Fm}(h:i<l.length):zai v (l.take (i+1))=if zai v (l.take i)<coM l[i].1 v then coM l[i].1 v else zai v (l.take i):=by rw[Zl h,zsR]
theorem zpT{v n C K:Nat}{l:List Fm}(h:∀ f∈l,Fv n C K f):lN (zai v l)<=C+1:=by
 rcases(zir v l).2.2 with e|⟨f,hf,e⟩
 .rw[e];have:=zcP;omega
 .rw[e];have:=(h f hf).lco v;omega
theorem zr3(ls ev:List Fm){n C K B v:Nat}(hn:n<=4)(hC:max C K<=500000000)(hl:ls.length<=9000)(hne:ls≠[])(hv:v<n)(h:∀ f∈ls,Fv n C K f)
  (hS:∀ l∈QU ls v,∀ i:Int,0<=i->i<=zcm v (zai v (QR ls v)) l->zbq (zbI ls l i) n B):zmG ls n ev v B:=by
 have UJ:∀ f∈QU ls v,Fv n C K f:=fun f hf=>h f (zbw.1 hf).1
 have R6:∀ f∈QU ls v,coM f.1 v<0:=fun f hf=>(zbw.1 hf).2
 have V2:∀ f∈QR ls v,Fv n C K f:=fun f hf=>h f (zcb.1 hf).1
 have l1:=zjn ls v;have l2:=zi6 ls v;obtain⟨m,hm⟩:∃ m,m=zai v (QR ls v):=⟨_,rfl⟩
 have XK:1<=m:=by rw[hm];exact(zir v (QR ls v)).1
 have lm:lN m<=C+1:=by rw[hm];exact zpT V2
 unfold zmG SpT;rw[<-hm]at hS ⊢;generalize PJ:QU ls v=lo at *
 generalize PL:QR ls v=hi at *
 generalize ZH ls v=re at *
 obtain⟨M,hM⟩:∃ M:Nat->Nat,M=fun k=>(zcm v m (lo.getD k ([],0))+1).toNat:=⟨_,rfl⟩
 have WI:∀ k (hk:k<lo.length),lo.getD k ([],0)=lo[k]:=fun k hk=>by rw[waE,wab hk];rfl
 have Li:∀ k (hk:k<lo.length) (i:Nat),i<M k↔(i:Int)<=zcm v m lo[k]:=fun k hk i=>by
  rw[hM];show i<(zcm v m (lo.getD k ([],0))+1).toNat↔_;rw[WI k hk];omega
 obtain⟨O,hO⟩:∃ O:Nat->Nat->Option (Nat->Int),∀ k (hk:k<lo.length) i,i<M k->zbV (zbI ls lo[k] i) n B (O k i)/\SoC 31 [.agg (sS (zbI ls lo[k] i) n)] n (O k i):=by
  have:∀ k i,∃ o:Option (Nat->Int),∀ (hk:k<lo.length),i<M k->zbV (zbI ls lo[k] i) n B o/\SoC 31 [.agg (sS (zbI ls lo[k] i) n)] n o:=fun k i=>by
   by_cases hk:k<lo.length
   .by_cases hi:i<M k
    .obtain⟨o,h1⟩:=hS _ (Qf hk) i (by omega) ((Li k hk i).1 hi)
     exact⟨o,fun _ _=>h1⟩
    .exact⟨none,fun _ h=>Qn h hi⟩
   .exact⟨none,fun h=>Qn h hk⟩
  obtain⟨O,hO⟩:=wdN.1 fun k=>wdN.1 (this k)
  exact⟨O,fun k hk i hi=>hO k i hk hi⟩
 obtain⟨I,hI⟩:∃ I:Nat->Nat,∀ k,I k<=M k/\(∀ r,r<I k->¬(O k r).isSome=true)/\(I k<M k->(O k (I k)).isSome=true) :=
  wdN.1 fun k=>zg4 (fun i=>(O k i).isSome=true) (M k)
 obtain⟨T,Uj,WD,KF⟩:=zg4 (fun k=>I k<M k) lo.length;obtain⟨o,Dz,EV⟩:∃ o:Option (Nat->Int),(T<lo.length->o=O T (I T))/\(T=lo.length->o=none):=by
  by_cases c:T<lo.length
  .exact⟨O T (I T),fun _=>rfl,fun e=>by omega⟩
  .exact⟨none,fun e=>Qn e c,fun _=>rfl⟩
 refine⟨o,?_,?_⟩
 .cases ho:o with
  |some p =>
   have c:T<lo.length:=by
    by_cases c:T<lo.length
    .exact c
    .have:=EV (by omega);rw[this]at ho;cases ho
   have h1:=(hO T c (I T) (KF c)).1;rw[<-Dz c,ho]at h1;exact⟨(Sat.app.1 h1.1).1,h1.2⟩
  |none =>
   have c:T=lo.length:=by
    by_cases c:T<lo.length
    .exfalso
     have h1:=(hI T).2.2 (KF c);rw[<-Dz c,ho]at h1;cases h1
    .omega
   intro l hl i h0 h1 p hp;obtain⟨k,hk,rfl⟩:=waQ.1 hl;obtain⟨i,rfl⟩:∃ j:Nat,i=j:=⟨i.toNat,by omega⟩
   have hi:=(Li k hk i).2 h1;have h2:=WD k (by omega);have h3:=(hI k).1;have h4:=(hI k).2.1 i (by omega);have h5:=(hO k hk i hi).1;cases e:O k i with
   |none=>rw[e]at h5;exact h5 p hp
   |some q=>rw[e]at h4;exact h4 rfl
 .refine zcq QB call99 func99 rfl ntmps99 results99 (by simp) (by decide) ?_ ?_ ?_
  .exact zby
  .exact zdS
  .have w1:=zbP 1 (by decide) (by decide)
   have w0:=zbP 0 (by decide) (by decide);have wm:=zbP (-1) (by decide) (by decide);have n1:=zcP;have nm:lN (-1)<=1:=by rw[Zw];exact n1
   simp only[go_sem];refine Q2 w1 rfl ?_;simp only[go_sem];refine QJ (fun i:Nat=>stL 89 [(1,litI .i64 v),(3,.one (.ptr 3 0)),(5,.one (.ptr 5 0)),(8,.one (.ptr 8 0)),(23,.one (.t (eL cF hi))),(24,litI .i64 hi.length),(25,litI .i64 i)]
     [(3,(sN ls n ev).map .t),(5,(sB lo hi re).map .t),(8,(cJ (zai v (hi.take i))).map .t)]) (fun i=>i<=hi.length) (fun i=>hi.length-i) 0 ?_ (Qk _) ?_
   .rw[was,show zai v []=1 from rfl]
    (refine Q6 rfl ?_ ?_ ?_ ?_<;>(try simp only[go_sem])<;>(try simp))
   .intro i J0
    simp only[go_sem];refine QI (fun Y1=>?_) (fun YI=>?_)
    .have Yz:i<hi.length:=by omega
     have Y5:QP cF hi i=cF hi[i]:=Q8 Yz;have hg:=V2 _ (Qf Yz);have o3:=zdc hg (by omega) (by omega) v;have ly:=hg.lco v;have lmi:=zpT (v:=v) (l:=hi.take i) fun f hf=>V2 f (waU hf)
     have Y0:=zsT (v:=v) Yz;have o4:=zgf (coM hi[i].1 v) (zai v (hi.take i)) (by omega) (by omega);generalize zai v (hi.take i)=mi at *
     generalize coM hi[i].1 v=y at *
     generalize hi[i]=g at *
     simp only[go_sem,Y5,Y1]
     (repeat(refine Qg (by omega) ?_))
     refine Q2 o3 rfl ?_;simp only[go_sem];refine Q2 o4 rfl ?_;by_cases c:mi<y
     .rw[Qc c]at Y0
      rw[zjh c];simp only[go_sem];refine⟨i+1,Yz,(by show hi.length-(i+1)<hi.length-i;omega),?_⟩
      (refine Q6 rfl ?_ ?_ ?_ ?_<;>(try simp only[go_sem,Y0,Q4 (n:=(i:Int)+1) (by omega) (by omega)])<;>(try simp))
     .rw[Qb c]at Y0
      have hc:=zjg (x:=y) (y:=mi) (by omega);have Jj:(0<Za y mi)=False:=Ql (by omega);simp only[go_sem,Jj];refine⟨i+1,Yz,(by show hi.length-(i+1)<hi.length-i;omega),?_⟩
      (refine Q6 rfl ?_ ?_ ?_ ?_<;>(try simp only[go_sem,Y0,Q4 (n:=(i:Int)+1) (by omega) (by omega)])<;>(try simp))
    .obtain rfl:i=hi.length:=by omega
     rw[waa,<-hm];simp only[go_sem];refine QJ (fun k:Nat=>stL 89 [(1,litI .i64 v),(3,.one (.ptr 3 0)),(8,.one (.ptr 8 0)),(39,.one (.t (eL cF lo))),(40,litI .i64 lo.length),(41,litI .i64 k)]
       [(3,(sN ls n ev).map .t),(8,(cJ m).map .t)]) (fun k=>k<=T) (fun k=>lo.length-k) 0 ?_ (Qk _) ?_
     ·(refine Q6 rfl ?_ ?_ ?_ ?_<;>(try simp only[go_sem])<;>(try simp))
     .intro k hk
      simp only[go_sem];refine QI (fun Y1=>?_) (fun YI=>?_)
      .have KG:k<lo.length:=by omega
       have Y5:QP cF lo k=cF lo[k]:=Q8 KG;have hf:=UJ _ (Qf KG);have PM:=R6 _ (Qf KG);have o3:=zdc hf (by omega) (by omega) v;have lx:=hf.lco v;have o4:=zbN (coM lo[k].1 v) (by omega);have p1:=Zw (coM lo[k].1 v);have p2:=ZS (-(coM lo[k].1 v)) m;have p3:=zez (-(coM lo[k].1 v)*m) (-(coM lo[k].1 v));have p4:=zez (-(coM lo[k].1 v)*m - -(coM lo[k].1 v)) m;have o5:=zdM (-(coM lo[k].1 v)) m (by omega) (by omega);have o6:=zer (-(coM lo[k].1 v)*m) (-(coM lo[k].1 v)) (by omega) (by omega);have o7:=zer (-(coM lo[k].1 v)*m - -(coM lo[k].1 v)) m (by omega) (by omega);have o8:=zej (-(coM lo[k].1 v)*m - -(coM lo[k].1 v)-m) m (by omega) (by omega);have p5:=zas (-(coM lo[k].1 v)*m - -(coM lo[k].1 v)-m) m;have Rt:Int.fdiv (-(coM lo[k].1 v)*m - -(coM lo[k].1 v)-m) m=zcm v m lo[k]:=rfl;have UE:=zpL (v:=v) (m:=m) (l:=lo[k]) XK PM;have PN:=hO k KG;have NO:=Li k KG;have Dw:=hI k;have WQ:∀ i:Nat,(i:Int)<=zcm v m lo[k]->lN (i:Int)<=C:=fun i hi=>by
        have:=zeI (x:=(i:Int)) (y:=coM lo[k].1 v) (by omega);omega
       rw[Rt]at o8 p5;generalize zcm v m lo[k]=top at *
       generalize Int.fmod (-(coM lo[k].1 v)*m - -(coM lo[k].1 v)-m) m=fm at *
       generalize -(coM lo[k].1 v)*m - -(coM lo[k].1 v)-m=x3 at *
       generalize -(coM lo[k].1 v)*m - -(coM lo[k].1 v)=x2 at *
       generalize -(coM lo[k].1 v)*m=x1 at *
       generalize -(coM lo[k].1 v)=x0 at *
       generalize coM lo[k].1 v=x at *
       generalize lo[k]=l at *
       simp only[go_sem,Y5,Y1]
       (repeat(refine Qg (by omega) ?_))
       ((repeat(refine Q3 0 rfl ?_;simp only[go_sem]));refine Q2 (o3) rfl ?_;simp only[go_sem];(repeat(refine Q3 0 rfl ?_;simp only[go_sem]));refine Q2 (o4) rfl ?_;simp only[go_sem];(repeat(refine Q3 0 rfl ?_;simp only[go_sem]));refine Q2 (o5) rfl ?_;simp only[go_sem];(repeat(refine Q3 0 rfl ?_;simp only[go_sem]));refine Q2 (o6) rfl ?_;simp only[go_sem];(repeat(refine Q3 0 rfl ?_;simp only[go_sem]));refine Q2 (o7) rfl ?_;simp only[go_sem];(repeat(refine Q3 0 rfl ?_;simp only[go_sem]));refine Q2 (o8) rfl ?_;simp only[go_sem];(repeat(refine Q3 0 rfl ?_;simp only[go_sem]));refine Q2 (w0) rfl ?_;simp only[go_sem];(repeat(refine Q3 0 rfl ?_;simp only[go_sem])));refine QJ (fun i:Nat=>stL 89 [(1,litI .i64 v),(3,.one (.ptr 3 0)),(8,.one (.ptr 8 0)),(13,.one (.ptr 13 0)),(15,.one (.ptr 15 0)),(17,.one (.ptr 900017 0)),(39,.one (.t (eL cF lo))),(40,litI .i64 lo.length),(41,litI .i64 k)]
         [(3,(sN ls n ev).map .t),(8,(cJ m).map .t),(13,(cF l).map .t),(15,(cJ top).map .t),(900017,(cJ (i:Int)).map .t)]) (fun i=>i<=I k) (fun i=>M k+1-i) 0 ?_ (Qk _) ?_
       .refine GStep.trans (zdd (b:=17) (b':=900017) (by simp only[go_sem]) (by decide) (by decide)) ?_
        (refine Q6 rfl ?_ ?_ ?_ ?_<;>(try simp only[go_sem])<;>(try simp))
       .intro i XP
        have Td:=Dw.1;have p6:=Qo p5 (show _<=max C K+max C K+10 by omega);have li:lN (i:Int)<=max C K+max C K+20:=by
         by_cases c:(i:Int)<=top
         .have:=WQ i c;omega
         .by_cases c2:i=0
          .subst c2;rw[show((0:Nat):Int)=0 from rfl,ZG];omega
          .have:((i-1:Nat):Int)<=top:=(NO (i-1)).1 (by omega)
           have h1:=WQ (i-1) this;have h2:=za8 ((i-1:Nat):Int) 1;rw[show((i-1:Nat):Int)+1=(i:Int) by omega]at h2;omega
        have q1:=zgf (i:Int) top (by omega) (by omega);simp only[go_sem];refine Q2 q1 rfl ?_;by_cases c:(i:Int)<=top
        .have MP:=(NO i).2 c
         have c':(Za (i:Int) top<=0)=True:=Qh (zjg c);have liC:=WQ i c;have q2:=zeW (i:Int) (by omega);have fc:Fv n 0 C (Zd (i:Int)):=Fv.const liC;have q3:=zfd hf fc (by omega) (by omega);have fat:Fv n (C+1) (max K C+1) (QN l (Zd (i:Int))):=hf.add fc (by omega) (by omega);have q4:=zeX fat (by omega) (by omega) (c:=-1) (by omega);have q5:=(zlG ls [QN l (Zd (i:Int)),scF (QN l (Zd (i:Int))) (-1)] n hne (by omega) (show 2<100000000 by decide)).tw (tvs':=[.agg (sS ls n),.one (.seq (some false) [cF (QN l (Zd (i:Int))),cF (scF (QN l (Zd (i:Int))) (-1))])]) (.cons .reflA (.cons (.one .weak) .nil));have hs:=(PN i MP).2;have q6:=zdf (i:Int) 1 (by omega) (by omega);unfold zbI at hs;generalize ls++[QN l (Zd (i:Int)),scF (QN l (Zd (i:Int))) (-1)]=sy at *
         generalize scF (QN l (Zd (i:Int))) (-1)=g3 at *
         generalize QN l (Zd (i:Int))=g2 at *
         generalize Zd (i:Int)=g1 at *
         cases DW:O k i with
         |some p =>
          rw[DW]at hs;have e1:i=I k:=by
           by_cases e:i=I k
           .exact e
           .exact(Dw.2.1 i (by omega) (by rw[DW];rfl)).elim
          have e2:k=T:=by
           by_cases e:k=T
           .exact e
           .exact(WD k (by omega) (by omega)).elim
          have e3:o=some p:=by rw[Dz (by omega),<-e2,<-e1,DW]
          rw[e3];simp only[go_sem,c'];refine Q3 0 rfl ?_;simp only[go_sem];refine Q2 q2 rfl ?_;simp only[go_sem];refine Q2 q3 rfl ?_;simp only[go_sem];refine zde 14 rfl ?_;refine QK.pre [] 0 [0,1,2,3,4,5,6,7] [8,9,10,11,12,13] #[true,true,true,true,true,true,true,true,false,false,false,false,false,false] 6 (by decide +kernel) (by decide +kernel) (by decide +kernel) (by decide +kernel) (by decide +kernel) rfl rfl (by decide +kernel) rfl ?_;simp only[Zq,wbh,wbi,waZ,wa6,wa0];simp only[go_sem];refine Q2 wm rfl ?_;simp only[go_sem];refine Q2 q4 rfl ?_;simp only[go_sem];refine Q2 q5 rfl ?_;simp only[go_sem];refine QK.ord [0,1,2,3,4,5,6,7] 2 [8,9,10,11,12,13] (by decide +kernel) (by decide +kernel) (by decide +kernel) (by decide +kernel) (by decide +kernel) (by decide) ?_;simp only[Zq,wbh,wbi,waZ,wa6,wa0];simp only[go_sem];refine zdK 900000 (.inr rfl) hs rfl (by simp only[go_sem]) (by decide) ?_;simp only[go_sem];exact zqJ rfl rfl (zcM fun p hp=>by cases hp;simp only[go_sem]<;>rfl)
         |none =>
          rw[DW]at hs;have e1:i+1<=I k:=by
           by_cases e:i=I k
           .exfalso
            have:=Dw.2.2 (by omega);rw[<-e,DW]at this;cases this
           .omega
          simp only[go_sem,c'];refine Q3 0 rfl ?_;simp only[go_sem];refine Q2 q2 rfl ?_;simp only[go_sem];refine Q2 q3 rfl ?_;simp only[go_sem];refine zde 14 rfl ?_;refine QK.pre [] 0 [0,1,2,3,4,5,6,7] [8,9,10,11,12,13] #[true,true,true,true,true,true,true,true,false,false,false,false,false,false] 6 (by decide +kernel) (by decide +kernel) (by decide +kernel) (by decide +kernel) (by decide +kernel) rfl rfl (by decide +kernel) rfl ?_;simp only[Zq,wbh,wbi,waZ,wa6,wa0];simp only[go_sem];refine Q2 wm rfl ?_;simp only[go_sem];refine Q2 q4 rfl ?_;simp only[go_sem];refine Q2 q5 rfl ?_;simp only[go_sem];refine QK.ord [0,1,2,3,4,5,6,7] 2 [8,9,10,11,12,13] (by decide +kernel) (by decide +kernel) (by decide +kernel) (by decide +kernel) (by decide +kernel) (by decide) ?_;simp only[Zq,wbh,wbi,waZ,wa6,wa0];simp only[go_sem];refine zdL (.inr rfl) hs rfl ?_;simp only[go_sem];((repeat(refine Q3 0 rfl ?_;simp only[go_sem]));refine Q2 (w1) rfl ?_;simp only[go_sem];(repeat(refine Q3 0 rfl ?_;simp only[go_sem]));refine Q2 (q6) rfl ?_;simp only[go_sem];(repeat(refine Q3 0 rfl ?_;simp only[go_sem])));refine⟨i+1,e1,(by show M k+1-(i+1)<M k+1-i;omega),?_⟩;refine GStep.trans (σ₁:=stL 89 [(1,litI .i64 v),(3,.one (.ptr 3 0)),(8,.one (.ptr 8 0)),(13,.one (.ptr 13 0)),(15,.one (.ptr 15 0)),(17,.one (.ptr 17 0)),(39,.one (.t (eL cF lo))),(40,litI .i64 lo.length),(41,litI .i64 k)]
           [(3,(sN ls n ev).map .t),(8,(cJ m).map .t),(13,(cF l).map .t),(15,(cJ top).map .t),(17,(cJ ((i:Int)+1)).map .t)]) ?_ ?_
          ·(refine Q6 rfl ?_ ?_ ?_ ?_<;>(try simp only[go_sem])<;>(try simp))
          .refine GStep.trans (zdd (b:=17) (b':=900017) (by simp only[go_sem]) (by decide) (by decide)) ?_
           (refine Q6 rfl ?_ ?_ ?_ ?_<;>(try simp only[go_sem])<;>(try simp))
        .have c':(Za (i:Int) top<=0)=False:=Ql (by rw[zjh (by omega)];decide)
         have MP:¬i<M k:=fun h=>c ((NO i).1 h)
         have e2:k≠T:=fun e=>by have:=KF (by omega);rw[<-e]at this;omega
         simp only[go_sem,c'];refine⟨k+1,by omega,(by show lo.length-(k+1)<lo.length-k;omega),?_⟩
         (refine Q6 rfl ?_ ?_ ?_ ?_<;>(try simp only[go_sem,Q4 (n:=(k:Int)+1) (by omega) (by omega)])<;>(try simp))
      .have R8:T=lo.length:=by omega
       rw[EV R8];simp only[go_sem];exact zqJ rfl rfl (fun b cs hb=>by cases hb)
def zdx(n:Nat):Option (Nat->Int)->List (Nat×List C)
 |some p=>[(102,Q5 cJ (fnG n p))]
 |none=>[]
noncomputable def zeQ(S:HX)(pv:Nat->Int)(kk:Nat->Nat)(bf:Nat->Int)(n R T:Nat):Option (Nat->Int):=if T<R then none else some (zfP S pv kk bf n R)
noncomputable def zc0(S:HX)(pv:Nat->Int)(kk:Nat->Nat)(bf:Nat->Int)(n R T:Nat):AV :=
 if T<R then .tup [.one (.t (.seq (some true) [])),.one (.t (.seq (some true) [])),litI .i64 0,.one (.t (eL cR (fnG R (rsF S pv T (zbZ S pv kk bf T) T)))),QO false]
 else .tup [.one (.vec 102 2 0 n),.one (.t (eW (Zz n n S.u))),litI .i64 (kk R),.one (.t (.seq (some true) [])),QO true]
theorem ziY{n:Nat}{o:Option (Nat->Int)}(b:Nat)(h:Q9 (zdx n o) b≠none):b=102:=by
 cases o with
 |none=>exact(h rfl).elim
 |some p =>
  have h:(if b=102 then some (Q5 cJ (fnG n p))else none)≠none:=h;split at h
  .assumption
  .exact(h rfl).elim
theorem zwf{n:Nat}{o:Option (Nat->Int)}(b:Nat)(cs:List C)(h:Q9 (zdx n o) b=some cs):∀ c∈cs,inC (Q9 (zdx n o)) c:=by
 cases o with
 |none=>cases h
 |some p =>
  have h:(if b=102 then some (Q5 cJ (fnG n p))else none)=some cs:=h;split at h
  .cases h
   intro c hc;unfold Q5 at hc;obtain⟨t,_,rfl⟩:=Qp.1 hc;trivial
  .cases h
theorem zwg{S:HX}{pv:Nat->Int}{kk:Nat->Nat}{bf:Nat->Int}{n R T:Nat}:inA (Q9 (zdx n (zeQ S pv kk bf n R T))) (zc0 S pv kk bf n R T):=by
 unfold zeQ zc0;split
 .exact⟨trivial,trivial,trivial,trivial,trivial,trivial⟩
 .refine⟨?_,trivial,trivial,trivial,trivial,trivial⟩
  show(if 102=102 then some (Q5 cJ (fnG n _))else none)≠none;simp
theorem zwh{n:Nat}{o:Option (Nat->Int)}{σ:St}(h:∀ p,o=some p->σ.H 102=some (Q5 cJ (fnG n p))):∀ b cs,Q9 (zdx n o) b=some cs->σ.H b=some cs:=fun b cs hb=>by
 obtain rfl:=ziY b (by rw[hb];simp);cases o with
 |none=>cases hb
 |some p =>
  have hb:some (Q5 cJ (fnG n p))=some cs:=hb;rw[<-hb];exact h p rfl
theorem zmm{P:Program}{Y:QE}{a b c d e:Nat}{x y z u v:AV}{σ:St}(h1:σ.s a=x)(h2:σ.s b=y)(h3:σ.s c=z)(h4:σ.s d=u)(h5:σ.s e=v)(hX:∀ b cs,Y b=some cs->σ.H b=some cs):zhU P [.tmp a,.tmp b,.tmp c,.tmp d,.tmp e] Y (.tup [x,y,z,u,v]) .ret σ :=
 ⟨.inr rfl,(fun x hx=>by
  rcases wad.1 hx with rfl|hx
  .trivial
  .rcases wad.1 hx with rfl|hx
   .trivial
   .rcases wad.1 hx with rfl|hx
    .trivial
    .rcases wad.1 hx with rfl|hx
     .trivial
     .obtain rfl:=Qr.1 hx;trivial),by rw[<-h1,<-h2,<-h3,<-h4,<-h5];rfl,hX⟩
theorem zxM(a:List (List RI))(b:List RI)(n:Nat){K L B:Nat}(hK:K<=500000000)(hL:L<=500000000)(hB:B<=500000000)(hn:n<=40)(hR:a.length<40000)(ha:∀ row∈a,LR L row)(LF:LR L b)(hb:zfu K (atW a) n a.length)
  {S:HX} (hS:S=(QG (atW a) n a.length a.length).1) {pv:Nat->Int} (VL:pv=pvS (atW a) n a.length) {kk:Nat->Nat} (Ud:kk=fun r=>(QG (atW a) n a.length r).2) (Tb:Nat) (hT:Tb<=a.length)
  (WU:∀ r,r<Tb->¬zcZ S pv kk (atR b) r) (XW:Tb<a.length->zcZ S pv kk (atR b) Tb) (UO:LBsol S pv kk (atR b) n a.length Tb K B) :
  zbW prog 83 [.one (eW a),.one (eL cI b),tI .i64 n] (Q9 (zdx n (zeQ S pv kk (atR b) n a.length Tb))) (zc0 S pv kk (atR b) n a.length Tb):=by
 obtain⟨R,KX⟩:∃ R,R=a.length:=⟨_,rfl⟩
 have YN:∀ r,(pv r = -1/\kk (r+1)=kk r)\/(pv r=(kk r:Int)/\kk (r+1)=kk r+1):=fun r=>by rw[VL,Ud];exact ztY
 have Wt:∀ r,kk r<=n/\kk r<=r:=fun r=>by rw[Ud];exact zfa r
 have VV:kk 0=0:=by rw[Ud];rfl
 have LG:S.n=n/\S.R=a.length:=by rw[hS];exact zdb _
 refine zcq QB call83 func83 rfl ntmps83 results83 (by simp) (by decide) ?_ ?_ ?_
 .exact zwf
 .exact zwg
 simp only[go_sem];refine ztp a n (.inr rfl) (by omega) (by omega) hn hR ha hb rfl (by simp only[go_sem]<;>rfl) ?_;rw[<-hS,<-VL];rw[<-KX]at UO hT XW LG hR ⊢;obtain⟨nS,RS⟩:=LG;obtain⟨H,hH⟩:∃ H,H=S.h:=⟨_,rfl⟩
 obtain⟨Y,hY⟩:∃ Y:Nat->Nat->Int,Y=ZD S pv kk (atR b):=⟨_,rfl⟩
 have O6:Y 0=fun _=>0:=by rw[hY];rfl
 have FN:∀ r,r<=R->∀ j,lN (Y r j)<=B:=fun r hr j=>by rw[hY];exact UO.y r hr j
 have FO:∀ r,Y (r+1)=if pv r<0 then Y r else fun j=>if j=kk r then Int.fdiv (zaw S pv kk (atR b) r) (S.h r (kk r))else Y r j:=fun r=>by rw[hY];rfl
 have Gl:∀ r,zaw S pv kk (atR b) r=atR b r-smI (fun i=>S.h r i*Y r i) (kk r):=fun r=>by rw[hY];rfl
 simp only[go_sem,nS,RS,zag]
 (repeat(refine Qg (by omega) ?_))
 refine QJ (fun r:Nat=>stL 127 [(1,.one (.t (eL cI b))),(11,.one (.ptr 900000 0)),(12,.one (.t (eL ZW (fnG R pv)))),(13,.one (.ptr 13 0)),(14,litI .i64 (kk r)),(39,.one (.t (eW (Zz R n S.h)))),(40,litI .i64 R),(41,litI .i64 r)]
  [(900000,[.t (eW (Zz R n S.h)),.t (eW (Zz n n S.u)),.t (eW (Zz n n S.v))]),(13,[.vec 35 2 0 n]),(35,Q5 cJ (fnG n (Y r)))]) (fun r=>r<=Tb) (fun r=>Tb-r) 0 ?_ (Qk _) ?_
 .refine GStep.trans (zaA 35 (cs:=Zh n [C.t (T.lit (Value.bool false)),C.t (T.seq (some true) [])]) (by simp only[go_sem]<;>rfl) (zgb n)) ?_
  rw[VV,O6]
  (refine Q6 rfl ?_ ?_ ?_ ?_<;>(try simp only[go_sem,QF])<;>(try simp only[Qz,Qw,Qx,Qv]))
  all_goals rfl
 .intro r hr
  simp only[go_sem];refine QI (fun Y1=>?_) (fun YI=>?_)
  .have JI:r<R:=by omega
   obtain⟨row,YG⟩:∃ row:List RI,row=fnG n fun c=>Yw (S.h r c):=⟨_,rfl⟩
   have er:QP cMw (Zz R n S.h) r=cMw row:=by rw[YG];unfold Zz;exact zd4 JI
   have YX:row.length=n:=by rw[YG,Zj]
   have No:LR K row:=by rw[YG];exact zl2 (by omega) fun c hc=>UO.h r c JI hc
   have XS:=Wt r;obtain⟨dn,Vf⟩:∃ dn,dn=smI (fun i=>S.h r i*Y r i) (kk r):=⟨_,rfl⟩
   have GT:=Gl r;rw[<-Vf]at GT;have rd:∀ H:QE,H 16=some [.t (eL cI row)]->H 13=some [.vec 35 2 0 n]->H 35=some (Q5 cJ (fnG n (Y r)))->RdC prog 128 [litI .i64 (kk r),.one (.fn 129 [(16,0),(13,0)])] H (.agg ((cJ dn).map .t)):=fun H h1 h2 h3=>by
    have:=zqf row n (Y r) (kk r) (L:=max K B) (by omega) ⟨No.1,fun p hp=>by have:=No.2 p hp;omega⟩ (fun j _=>by have:=FN r (by omega) j;omega) (by omega) (by omega) (by omega) (fun k hk Kh=>zyH row n (Y r) k hk Kh (by omega) (by omega)) (c1:=16) (c2:=13) (c3:=35) (by decide) (by decide) (by decide) h1 h2 h3;rw[zpU (g:=S.h r) (by omega) YG,<-Vf]at this;exact this
   have S7:lN dn<=2*max K B+1000:=by
    have:=zjH (f:=fun i=>S.h r i*Y r i) (C:=2*max K B) (m:=kk r) fun i hi=>by
     have h1:=UO.h r i JI (by omega);have h2:=FN r (by omega) i;have h3:=ZS (S.h r i) (Y r i);omega
    rw[<-Vf]at this;omega
   have Xj:((r:Int)<(R:Int))=True:=Qh (by omega);have ep:QP ZW (fnG R pv) r=ZW (pv r):=zd4 JI;have o1:=zp3 b r (L:=L) (by omega) LF (by omega);have Gm:=LF.at r;have o2:=zer (atR b r) dn (by omega) (by omega);rw[<-GT]at o2;have Np:=UO.left r JI;have o3:=zdJ (zaw S pv kk (atR b) r) (by omega);generalize Xb:zaw S pv kk (atR b) r=le at *
   simp only[go_sem,er,Xj,zag]
   (repeat(refine Qg (by omega) ?_))
   refine zbL (.inr rfl) (rd _ (by simp only[go_sem]<;>rfl) (by simp only[go_sem]<;>rfl) (by simp only[go_sem]<;>rfl)) ?_;simp only[go_sem];((repeat(refine Q3 0 rfl ?_;simp only[go_sem]));refine Q2 (o1) rfl ?_;simp only[go_sem];(repeat(refine Q3 0 rfl ?_;simp only[go_sem]));refine Q2 (o2) rfl ?_;simp only[go_sem];(repeat(refine Q3 0 rfl ?_;simp only[go_sem])));simp only[go_sem,ep,Xj]
   (repeat(refine Qg (by omega) ?_))
   have YK:zcZ S pv kk (atR b) r↔(if pv r<0 then le≠0 else Int.fmod le (S.h r (kk r))≠0):=by unfold zcZ;rw[Xb]
   have RG:zcZ S pv kk (atR b) r->r=Tb:=fun h=>waF fun hne=>WU r (by omega) h
   have KY:¬zcZ S pv kk (atR b) r->r<Tb:=fun h=>waF fun hne=>by
    obtain rfl:r=Tb:=by omega
    exact h (XW JI)
   have FQ:∀ i,pv i<(n:Int):=fun i=>by
    have h1:=Wt i;have h2:=Wt (i+1);rcases YN i with⟨h,h3⟩|⟨h,h3⟩<;>omega
   have LH:∀ (q0:Rat),lQ q0<=B->LBrs S pv r R q0 B->∀ H:QE,H 900000=some (ZX S)->RdC prog 132 [.one (.ptr 900000 0),.one (.t (eL ZW (fnG R pv))),litI .i64 r,.agg ((cR q0).map .t)] H (.one (.t (eL cR (fnG R (rsF S pv r q0 r))))):=fun q0 h1 h2 H h3=>by
    have:=ztZ S pv r q0 (B:=B) (K:=K) (by omega) (by omega) (by omega) (by omega) (by omega) (fun i _=>by rw[nS];exact FQ i) h1 (fun j c hj hc=>UO.h j c (by omega) (by omega)) (by rw[RS];exact h2) h3;rw[RS]at this;exact this
   have S8:ZX S=[.t (eW (Zz R n S.h)),.t (eW (Zz n n S.u)),.t (eW (Zz n n S.v))]:=by unfold ZX;rw[nS,RS]
   have XG:zbZ S pv kk (atR b) r=if pv r<0 then Rat.divInt 1 (le+le)else Rat.divInt 1 (S.h r (kk r)):=by unfold zbZ;rw[Xb]
   have om:Q7 prog 106 [tI .i64 1] (eI 1):=zbP 1 (by decide) (by decide);have l1:lN 1<=1:=ZQ (by omega);have KZ:=FO r;rw[Xb]at KZ;refine QI (fun hp=>?_) (fun hp=>?_)
   .rw[Qc hp]at YK XG KZ
    have VG:kk (r+1)=kk r:=by rcases YN r with⟨_,h⟩|⟨h,_⟩<;>omega
    simp only[go_sem];((repeat(refine Q3 0 rfl ?_;simp only[go_sem]));refine Q2 (o3) rfl ?_;simp only[go_sem];(repeat(refine Q3 0 rfl ?_;simp only[go_sem])));refine QI (fun hs=>?_) (fun hs=>?_)
    .have Wu:le≠0:=fun h=>hs (wbR.2 h)
     have Vu:=RG (YK.2 Wu);have UH:=za8 le le;have o4:=zdf le le (by omega) (by omega);have o5:=zqx 1 (le+le) (by omega) (by omega);rw[<-XG]at o5;have YW:zc0 S pv kk (atR b) n R Tb = .tup [.one (.t (.seq (some true) [])),.one (.t (.seq (some true) [])),litI .i64 0,.one (.t (eL cR (fnG R (rsF S pv r (zbZ S pv kk (atR b) r) r)))),QO false]:=by
      unfold zc0;rw[Qc (by omega),<-Vu]
     have UP:zeQ S pv kk (atR b) n R Tb=none:=Qc (by omega);have Gn:=LH (zbZ S pv kk (atR b) r) (by rw[Vu];exact UO.oft (by omega)) (by rw[Vu];exact UO.rs (by omega));rw[YW,UP];generalize zbZ S pv kk (atR b) r=q0 at *
     simp only[go_sem];refine Q3 3 rfl ?_;simp only[go_sem];refine Q2 om rfl ?_;simp only[go_sem];refine Q2 o4 rfl ?_;simp only[go_sem];refine Q2 o5 rfl ?_;simp only[go_sem];refine zht (Gn _ (by simp only[go_sem,nS,RS])) ?_;simp only[go_sem];exact zmm rfl rfl rfl rfl rfl (fun b cs hb=>by cases hb)
    .have Wu:le=0:=wbR.1 (wcT.1 hs)
     have Vu:=KY (fun h=>YK.1 h Wu);simp only[go_sem];refine⟨r+1,Vu,(by show Tb-(r+1)<Tb-r;omega),?_⟩
     (refine Q6 rfl ?_ ?_ ?_ ?_<;>(try simp only[go_sem,QF,VG,KZ,Q4 (n:=(r:Int)+1) (by omega) (by omega)])<;>(try simp only[Qz,Qw,Qx,Qv]))
     all_goals rfl
   .rw[Qb hp]at YK XG KZ
    have VG:kk (r+1)=kk r+1:=by rcases YN r with⟨h,_⟩|⟨_,h⟩<;>omega
    have KO:kk r<n:=by have:=Wt (r+1);omega
    have ek:QP cI row (kk r)=cJ (S.h r (kk r)):=by rw[YG,zd4 KO,zqT]
    have Xv:((kk r:Int)<(n:Int))=True:=Qh (by omega);have S9:=UO.h r (kk r) JI KO;have o4:=zej le (S.h r (kk r)) (by omega) (by omega);simp only[go_sem];refine Q3 0 rfl ?_;simp only[go_sem,ek,Xv,YX,ZO]
    (repeat(refine Qg (by omega) ?_))
    ((repeat(refine Q3 0 rfl ?_;simp only[go_sem,ek,Xv,YX,ZO]));refine Q2 (o4) rfl ?_;simp only[go_sem];(repeat(refine Q3 0 rfl ?_;simp only[go_sem,ek,Xv,YX,ZO])));have Xz:=zas le (S.h r (kk r));have L7:lN (le.fmod (S.h r (kk r)))<=max (lN le) (lN (S.h r (kk r))):=zwe le (S.h r (kk r));have o6:=zdJ (le.fmod (S.h r (kk r))) (by omega);refine Q2 o6 rfl ?_;simp only[go_sem];refine QI (fun hs=>?_) (fun hs=>?_)
    .have Wu:le.fmod (S.h r (kk r))≠0:=fun h=>hs (wbR.2 h)
     have Vu:=RG (YK.2 Wu);have o5:=zqx 1 (S.h r (kk r)) (by omega) (by omega);rw[<-XG]at o5;have YW:zc0 S pv kk (atR b) n R Tb = .tup [.one (.t (.seq (some true) [])),.one (.t (.seq (some true) [])),litI .i64 0,.one (.t (eL cR (fnG R (rsF S pv r (zbZ S pv kk (atR b) r) r)))),QO false]:=by
      unfold zc0;rw[Qc (by omega),<-Vu]
     have UP:zeQ S pv kk (atR b) n R Tb=none:=Qc (by omega);have Gn:=LH (zbZ S pv kk (atR b) r) (by rw[Vu];exact UO.oft (by omega)) (by rw[Vu];exact UO.rs (by omega));rw[YW,UP];generalize zbZ S pv kk (atR b) r=q0 at *
     simp only[go_sem];refine Q3 3 rfl ?_;simp only[go_sem]
     (repeat(refine Qg (by omega) ?_))
     refine Q2 om rfl ?_;simp only[go_sem,ek,Xv,YX,ZO]
     (repeat(refine Qg (by omega) ?_))
     refine Q2 o5 rfl ?_;simp only[go_sem];refine zht (Gn _ (by simp only[go_sem,nS,RS])) ?_;simp only[go_sem];exact zmm rfl rfl rfl rfl rfl (fun b cs hb=>by cases hb)
    .have Wu:le.fmod (S.h r (kk r))=0:=wbR.1 (wcT.1 hs)
     have Vu:=KY (fun h=>YK.1 h Wu);have cl:=fun g=>zaD (n:=n) (g:=g)
     have sd:=zbF (n:=n) (g:=Y r) KO (q:=le.fdiv (S.h r (kk r)));rw[<-KZ]at sd;have hw:IntKind.i64.wrap ((kk r:Int)+1)=((kk r+1:Nat):Int):=by rw[Q4 (by omega) (by omega)];omega
     simp only[go_sem,Xv,cl,sd,hw]
     (repeat(refine Qg (by omega) ?_))
     refine⟨r+1,Vu,(by show Tb-(r+1)<Tb-r;omega),?_⟩
     (refine Q6 rfl ?_ ?_ ?_ ?_<;>(try simp only[go_sem,QF,VG,Q4 (n:=(r:Int)+1) (by omega) (by omega)])<;>(try simp only[Qz,Qw,Qx,Qv]))
     all_goals rfl
  .obtain rfl:r=Tb:=by omega
   obtain rfl:r=R:=by omega
   have YW:zc0 S pv kk (atR b) n r r = .tup [.one (.vec 102 2 0 n),.one (.t (eW (Zz n n S.u))),litI .i64 (kk r),.one (.t (.seq (some true) [])),QO true]:=by
    unfold zc0;rw[Qb (wa8 _)]
   have UP:zeQ S pv kk (atR b) n r r=some (zfP S pv kk (atR b) n r):=Qb (wa8 _);rw[YW,UP];obtain⟨X,hX⟩:∃ X,X=zfP S pv kk (atR b) n r:=⟨_,rfl⟩
   have O7:∀ i,X i=smI (fun j=>S.u i j*Y r j) n:=fun i=>by rw[hX,hY];rfl
   rw[<-hX];simp only[go_sem]
   (repeat(refine Qg (by omega) ?_))
   refine QJ (fun i:Nat=>stL 127 [(11,.one (.ptr 900000 0)),(13,.one (.ptr 13 0)),(14,litI .i64 (kk r)),(21,.one (.vec 102 2 0 n)),(106,.one (.t (eW (Zz n n S.u)))),(107,litI .i64 n),(108,litI .i64 i)]
    [(900000,[.t (eW (Zz r n S.h)),.t (eW (Zz n n S.u)),.t (eW (Zz n n S.v))]),(13,[.vec 35 2 0 n]),(35,Q5 cJ (fnG n (Y r))),(102,Q5 cJ (fnG n fun j=>if j<i then X j else 0))]) (fun i=>i<=n) (fun i=>n-i) 0 ?_ (Qk _) ?_
   .refine GStep.trans (zaA 102 (cs:=Zh n [C.t (T.lit (Value.bool false)),C.t (T.seq (some true) [])]) (by simp only[go_sem]<;>rfl) (zgb n)) ?_
    have e0:(fun j=>if j<0 then X j else(0:Int))=fun _=>0:=by funext j;rw[Qb (wa5 _)]
    rw[e0]
    (refine Q6 rfl ?_ ?_ ?_ ?_<;>(try simp only[go_sem,QF,zag])<;>(try simp only[Qz,Qw,Qx,Qv]))
    all_goals rfl
   .intro i hi
    simp only[go_sem];refine QI (fun WQ=>?_) (fun Nq=>?_)
    .have JQ:i<n:=by omega
     obtain⟨row,YG⟩:∃ row:List RI,row=fnG n fun c=>Yw (S.u i c):=⟨_,rfl⟩
     have er:QP cMw (Zz n n S.u) i=cMw row:=by rw[YG];unfold Zz;exact zd4 JQ
     have YX:row.length=n:=by rw[YG,Zj]
     have No:LR K row:=by rw[YG];exact zl2 (by omega) fun c hc=>UO.u i c JQ hc
     have rd:∀ H:QE,H 23=some [.t (eL cI row)]->H 13=some [.vec 35 2 0 n]->H 35=some (Q5 cJ (fnG n (Y r)))->RdC prog 128 [litI .i64 n,.one (.fn 134 [(23,0),(13,0)])] H (.agg ((cJ (X i)).map .t)):=fun H h1 h2 h3=>by
      have:=zqf row n (Y r) n (L:=max K B) (by omega) ⟨No.1,fun p hp=>by have:=No.2 p hp;omega⟩ (fun j _=>by have:=FN r (Qd _) j;omega) (by omega) (by omega) (by omega) (fun k hk Kh=>zyI row n (Y r) k hk Kh (by omega) (by omega)) (c1:=23) (c2:=13) (c3:=35) (by decide) (by decide) (by decide) h1 h2 h3;rw[zpU (g:=S.u i) (by omega) YG,<-O7]at this;exact this
     have cl:=fun g=>zaD (n:=n) (g:=g)
     have sd:=zbF (n:=n) (g:=fun j=>if j<i then X j else 0) JQ (q:=X i);have sde:fnG n (fun v=>if v=i then X i else if v<i then X v else 0)=fnG n (fun v=>if v<i+1 then X v else 0):=Yo fun v hv=>by
      by_cases e1:v=i
      .rw[Qc e1,Qc (by omega),e1]
      .rw[Qb e1]
       by_cases e2:v<i
       .rw[Qc e2,Qc (by omega)]
       .rw[Qb e2,Qb (by omega)]
     rw[sde]at sd;simp only[go_sem,er,WQ,zag]
     (repeat(refine Qg (by omega) ?_))
     refine zbL (.inr rfl) (rd _ (by simp only[go_sem]<;>rfl) (by simp only[go_sem]<;>rfl) (by simp only[go_sem]<;>rfl)) ?_;simp only[go_sem,WQ,cl,sd]
     (repeat(refine Qg (by omega) ?_))
     refine⟨i+1,JQ,(by show n-(i+1)<n-i;omega),?_⟩
     (refine Q6 rfl ?_ ?_ ?_ ?_<;>(try simp only[go_sem,QF,Q4 (n:=(i:Int)+1) (by omega) (by omega)])<;>(try simp only[Qz,Qw,Qx,Qv]))
     all_goals rfl
    .obtain rfl:i=n:=by omega
     simp only[go_sem];refine Q3 0 rfl ?_;simp only[go_sem];have e1:fnG i (fun j=>if j<i then X j else 0)=fnG i X:=Yo fun v hv=>Qc hv
     rw[e1];exact zmm rfl rfl rfl rfl rfl (zwh fun p hp=>by cases hp;simp only[go_sem]<;>rfl)
@[go_sem] theorem zDS{α:Type}{f:α->List Go.Abs.T}{xs:List α}{o:Option (List Go.Abs.C)}{b sz len:Nat}{x:Go.Abs.T}:(ZK f xs o).map (fun cs=>cs.map (fC b sz len x))=ZK f xs (o.map (fun cs=>cs.map (fC b sz len x))):=by
 cases xs with
 |nil=>rfl
 |cons y xs=>simp only[ZK,wcG,Q5,wah];rfl
attribute [go_sem] zhe zha
theorem zqz{n:Nat}{g:Nat->Int}:eL cJ (fnG n g)=eL cI (fnG n fun j=>Yw (g j)):=by
 unfold eL fnG;rw[wah,wah];rfl
theorem zu6{n:Nat}{g:Nat->Int}:TreeOf (Q5 cJ (fnG n g)) 2 n (eL cI (fnG n fun j=>Yw (g j))):=by
 have:=Yp (f:=cJ) (xs:=fnG n g) Yj
 rwa[Zj,zqz]at this
theorem zyd(ev:List Fm):eL cJ (ev.map fun e=>-e.2)=eL cI (evB ev):=by
 unfold eL evB;rw[wah,wah];rfl
theorem zu7{n:Nat}{ev:List Fm}{i:Nat}(h:i<ev.length):evA n (ev.take (i+1))=evA n (ev.take i)++[fnG n fun j=>Yw (coM ev[i].1 j)]:=by
 unfold evA;rw[Zl h,waK];rfl
theorem ztD{ev:List Fm}{i:Nat}(h:i<ev.length):(ev.take (i+1)).map (fun e=>-e.2)=(ev.take i).map (fun e=>-e.2)++[-(ev[i].2)]:=by
 rw[Zl h,waK];rfl
theorem zlX{x:Int}{u:Nat->Int}{k m:Nat}(n:Nat)(h:m<=n):∀ q∈(foJ x u k m).1,q.1<n:=fun q hq=>by
 have h1:=zhJ (x:=x) (u:=u) (k:=k) q.1 m;have h2:=zpH (zeF (x:=x) (u:=u) (k:=k) m) hq;rw[h2]at h1;refine waF fun c=>?_
 rw[Qb (by omega)]at h1;exact(WM.mem (zeF m) _ hq).2 h1
theorem zjl{x:Int}{u:Nat->Int}{k n X U:Nat}(hx:lN x<=X)(hu:∀ j,j<n->lN (u (k+j))<=U)(m:Nat)(hm:m<=n):Fv n U X (foJ x u k m) where
 wf:=zeF m
 lt:=zlX n hm
 co:=fun q hq=>by
  have h1:=zhJ (x:=x) (u:=u) (k:=k) q.1 m;rw[zpH (zeF m) hq]at h1;have h3:=zlX m (Qd _) q hq;rw[h1,Qc h3];exact hu _ (by omega)
 ko:=by
  have h1:=zhI (x:=x) (u:=u) (k:=k) (fun _=>0) m;have h2:atF (foJ x u k m) (fun _=>0)=(foJ x u k m).2+atM (foJ x u k m).1 fun _=>0:=rfl
  rw[zjv (zeF m) (zlX m (Qd _)),zcx fun v _=>waI _]at h2;rw[zcx fun v _=>waI _]at h1;rw[show(foJ x u k m).2=x by omega];exact hx
theorem zu8:∀ n:Nat,WeakL (Zh n [Abs.C.t (.seq (some true) []),Abs.C.t (.lit (.bool false)),Abs.C.t (.seq (some true) [])]) (Q5 cF (fnG n fun _=>(([],0):Fm))):=by
 intro n;have e:∀ n,fnG n (fun _=>(([],0):Fm))=List.replicate n ([],0):=fun n=>by unfold fnG;rw[wdz];simp
 rw[e]
 induction n with
 |zero=>exact .nil
 |succ n ih =>
  unfold Zh at ih ⊢;rw[wbs,wbs,wbC,zcr];exact .cons .seq (.cons .refl (.cons (by show WeakC _ (.t (eN (dig 0)));rw[Zg];exact .seq) ih))
theorem zqA{n:Nat}{g:Nat->Fm}{i:Nat}(hi:i<n){q:Fm}:(Q5 cF (fnG n g)).take (i*3)++Abs.C.t (eL cMn q.1)::Abs.C.t (.lit (.bool (decide (q.2<0))))::Abs.C.t (eN (dig q.2.natAbs))::(Q5 cF (fnG n g)).drop (i*3+3)=Q5 cF (fnG n (fun v=>if v=i then q else g v)):=by
 have:=zhz (f:=cF) (sz:=3) Z9 hi (g:=g) (y:=q);rw[<-this];simp[Yq,cF]
theorem zi4{n:Nat}{g:Nat->Fm}:(Q5 cF (fnG n g)).length=n*3:=zbB Z9
theorem ztE{m:Nat}{f:FuncId}{ys:List AV}{args:List TV}{n kx:Nat}{u:Go.Abs.T}{p:Nat->Int}{σ:St}{K:AV->St->Prop}(hm:m=1\/m=2)(h:zbW prog f args (Q9 (zdx n (some p))) (.tup [.one (.vec 102 2 0 n),.one (.t u),litI .i64 kx,.one (.t (.seq (some true) [])),QO true]))(Xc:ys=args.map emb)(hn:σ.H 900000=none)
  (hK:K (.tup [.one (.vec 900000 2 0 n),.one (.t u),litI .i64 kx,.one (.t (.seq (some true) [])),QO true]) (σ.withH (upd σ.H 900000 (some (Q5 cJ (fnG n p)))))):ZM prog m f ys σ K:=by
 refine zfi (H':=upd σ.H 900000 (some (Q5 cJ (fnG n p)))) (fun _=>900000) hm h Xc (fun b hb=>⟨hn,by decide⟩) (fun b b' h1 h2 _=>(ziY b h1).trans (ziY b' h2).symm) (fun b cs hb=>?_) (fun x hb=>?_) hK
 .obtain rfl:=ziY b (by rw[hb];simp)
  have hb:some (Q5 cJ (fnG n p))=some cs:=hb;cases hb
  show(if 900000=900000 then some _ else _)=_;rw[Qc rfl];congr 1;unfold Q5;rw[wah];rfl
 .have:x≠900000:=fun e=>hb 102 (by show(if 102=102 then _ else _)≠none;simp) e.symm
  show(if x=900000 then _ else _)=_;rw[Qb this]
theorem ztF{m:Nat}{f:FuncId}{ys:List AV}{args:List TV}{n:Nat}{w:Go.Abs.T}{σ:St}{K:AV->St->Prop}(hm:m=1\/m=2)(h:zbW prog f args (Q9 (zdx n none)) (.tup [.one (.t (.seq (some true) [])),.one (.t (.seq (some true) [])),litI .i64 0,.one (.t w),QO false]))(Xc:ys=args.map emb)
  (hK:K (.tup [.one (.t (.seq (some true) [])),.one (.t (.seq (some true) [])),litI .i64 0,.one (.t w),QO false]) (σ.withH σ.H)):ZM prog m f ys σ K :=
 zfi (H':=σ.H) id hm h Xc (fun b hb=>(hb rfl).elim) (fun b b' h1 _ _=>(h1 rfl).elim) (fun b cs hb=>by cases hb) (fun x _=>rfl) hK
def eqS(ls:List Fm)(n:Nat)(ev:List Fm)(R i:Nat):St:=if i=R then stL 188 [(1,.one (.ptr 1 0)),(4,.one (.t (eW (evA n ev)))),(5,.one (.t (eL cI (evB ev)))),(29,.one (.t (eL cF ev))),(30,litI .i64 R),(31,litI .i64 i)] [(1,(sN ls n ev).map .t)]
 else stL 188 [(1,.one (.ptr 1 0)),(4,zae 1000 1 (evA n (ev.take i))),(5,zae 1001 2 ((ev.take i).map fun e=>-e.2)),(29,.one (.t (eL cF ev))),(30,litI .i64 R),(31,litI .i64 i)]
  (Zb 1000 cMw (evA n (ev.take i))++(Zb 1001 cJ ((ev.take i).map fun e=>-e.2)++[(1,(sN ls n ev).map .t)]))
theorem zqB(T ev:List Fm){n L k UB XB B R:Nat}{X:Nat->Int}{u:Nat->Nat->Int}{fo:Nat->Fm}{NX:List Fm}{why:Go.Abs.T}{o:Option (Nat->Int)}(hR:R=ev.length)(hn:n<=4)(hL:L<=500000000)(R8:T.length<=8000)(EL:T≠[])(Y5:ev.length<=8000)(Gq:ev≠[])(hT:∀ f∈T,Fv n L L f)(he:∀ f∈ev,Fv n L L f)
  (hU:UB<=500000000) (SM:XB<=1000000000) (hB:B<=3000000000) (hX:∀ i,i<n->lN (X i)<=XB) (hu:∀ i j,i<n->j<n->lN (u i j)<=UB) (XS:k<=n) (Rm:∀ i,fo i=foJ (X i) (u i) k (n-k)) (Nz:NX=T.map fun c=>nwL fo c.2 c.1)
  (XC:(zbW prog 83 [.one (eW (evA n ev)),.one (eL cI (evB ev)),tI .i64 n] (Q9 (zdx n none)) (.tup [.one (.t (.seq (some true) [])),.one (.t (.seq (some true) [])),litI .i64 0,.one (.t why),QO false])/\o=none) \/
   (zbW prog 83 [.one (eW (evA n ev)),.one (eL cI (evB ev)),tI .i64 n] (Q9 (zdx n (some X))) (.tup [.one (.vec 102 2 0 n),.one (.t (eW (Zz n n u))),litI .i64 k,.one (.t (.seq (some true) [])),QO true]) /\
    ∃ o',SoC 31 [.agg (sS NX (n-k))] (n-k) o'/\(∀ y,o'=some y->∀ v,v<n-k->lN (y v)<=B)/\o=o'.map fun y v=>atF (fo v) y)) :
  SoC 52 [.agg (sN T n ev)] n o:=by
 have Hx:∀ i,i<n->∀ m,m<=n-k->Fv (n-k) UB XB (foJ (X i) (u i) k m):=fun i hi m hm=>zjl (hX i hi) (fun j hj=>hu i (k+j) hi (by omega)) m hm
 obtain⟨R,hR⟩:∃ R,R=ev.length:=⟨_,rfl⟩
 have Vr:0<R:=by rw[hR];exact wbc.2 Gq
 refine zcq QB call52 func52 rfl ntmps52 results52 (by simp) (by decide) ?_ ?_ ?_
 .exact zby
 .exact zdS
 simp only[go_sem];refine QJ (eqS T n ev R) (fun i=>i<=R) (fun i=>R-i) 0 ?_ (Qk _) ?_
 .unfold eqS
  rw[Qb (by omega),was,show evA n []=[]from rfl,waL,hR]
  (refine Q6 rfl ?_ ?_ ?_ ?_<;>(try simp only[go_sem])<;>(try simp))
 .intro i hi
  by_cases Ds:i=R
  .subst Ds
   clear hi;unfold eqS;rw[Qc rfl];have J0:((i:Int)<(i:Int))=False:=Ql (by omega);rcases XC with⟨EM,rfl⟩|⟨EM,o',hs,Mk,rfl⟩
   .simp only[go_sem,J0]
    refine ztF (.inr rfl) EM rfl ?_;simp only[go_sem];exact zbn rfl rfl (fun b cs hb=>by cases hb)
   simp only[go_sem,J0];refine ztE (.inr rfl) EM rfl (by simp only[go_sem]<;>rfl) ?_;have Xu:((0:Int)<=(n:Int))=True:=Qh (by omega);simp only[go_sem,Xu]
   (repeat(refine Qg (by omega) ?_))
   refine QJ (fun i:Nat=>stL 188 [(1,.one (.ptr 1 0)),(11,.one (.vec 900000 2 0 n)),(12,.one (.t (eW (Zz n n u)))),(13,litI .i64 k),(16,.one (.vec 81 3 0 n)),(82,.one (.vec 81 3 0 n)),(83,litI .i64 n),(84,litI .i64 i)]
     [(1,(sN T n ev).map .t),(900000,Q5 cJ (fnG n X)),(81,Q5 cF (fnG n fun v=>if v<i then fo v else([],0)))]) (fun i=>i<=n) (fun i=>n-i) 0 ?_ (Qk _) ?_
   .refine GStep.trans (zaA 81 (cs:=Zh n [Abs.C.t (.seq (some true) []),Abs.C.t (.lit (.bool false)),Abs.C.t (.seq (some true) [])]) (by simp only[go_sem]<;>rfl) (zu8 n)) ?_
    rw[show(fun v=>if v<0 then fo v else(([],0):Fm))=fun _=>([],0)from funext fun v=>Qb (by omega)]
    (refine Q6 rfl ?_ ?_ ?_ ?_<;>(try simp only[go_sem,QF])<;>(try simp))
   .intro i hi
    simp only[go_sem];refine QI (fun Y1=>?_) (fun YI=>?_)
    .have Yz:i<n:=by omega
     have exX:=Z4 (f:=cJ) Yj Yz (g:=X);have clX:=zaD (n:=n) (g:=X);have SN:=hX i Yz;have o1:=zeW (X i) (by omega);have Vz:((i:Int)<(n:Int))=True:=Qh (by omega);obtain⟨row,YG⟩:∃ row:List RI,row=fnG n fun c=>Yw (u i c):=⟨_,rfl⟩
     have er:QP cMw (Zz n n u) i=cMw row:=by rw[YG];unfold Zz;exact zd4 Yz
     have YX:row.length=n:=by rw[YG,Zj]
     have erl:(Zz n n u).length=n:=zag;obtain⟨Gf,EN⟩:∃ Gf:Nat->Nat->Fm,Gf=fun q v=>if v=i then foJ (X i) (u i) k (q-k)else if v<i then fo v else([],0):=⟨_,rfl⟩
     have clG:=fun q=>zi4 (n:=n) (g:=Gf q)
     have clG0:=zi4 (n:=n) (g:=fun v=>if v<i then fo v else(([],0):Fm));have sd0:=zqA Yz (g:=fun v=>if v<i then fo v else(([],0):Fm)) (q:=Zd (X i));have e0:(fun v=>if v=i then Zd (X i)else if v<i then fo v else(([],0):Fm))=Gf k:=by
      rw[EN];funext v;show _=if v=i then foJ (X i) (u i) k (k-k)else _
      rw[wbu];rfl
     rw[e0]at sd0;have Pd:(fun v=>if v<i+1 then fo v else(([],0):Fm))=Gf n:=by
      rw[EN];funext v;show _=if v=i then foJ (X i) (u i) k (n-k)else _
      by_cases c:v=i
      .rw[Qc c,Qc (by omega),Rm,c]
      .rw[Qb c]
       by_cases c2:v<i
       .rw[Qc c2,Qc (by omega)]
       .rw[Qb c2,Qb (by omega)]
     have Pe:∀ q,Gf q i=foJ (X i) (u i) k (q-k):=fun q=>by rw[EN];exact Qc rfl
     have Ml:∀ q (f:Fm),f=foJ (X i) (u i) k (q+1-k)->(fun v=>if v=i then f else Gf q v)=Gf (q+1):=fun q f h=>by
      rw[EN];funext v;show(if v=i then f else if v=i then _ else _)=if v=i then foJ (X i) (u i) k (q+1-k)else _
      by_cases c:v=i
      .rw[Qc c,Qc c,h]
      .rw[Qb c,Qb c,Qb c]
     generalize hz:Zd (X i)=z at *
     simp only[go_sem,exX,Vz,cJ]
     (repeat(refine Qg (by omega) ?_))
     refine Q2 o1 rfl ?_;simp only[go_sem,clG0]
     (repeat(refine Qg (by omega) ?_))
     refine QJ (fun q:Nat=>stL 188 [(1,.one (.ptr 1 0)),(11,.one (.vec 900000 2 0 n)),(12,.one (.t (eW (Zz n n u)))),(13,litI .i64 k),(16,.one (.vec 81 3 0 n)),(17,litI .i64 i),(18,litI .i64 q),(82,.one (.vec 81 3 0 n)),(83,litI .i64 n),(84,litI .i64 i)]
       [(1,(sN T n ev).map .t),(900000,Q5 cJ (fnG n X)),(81,Q5 cF (fnG n (Gf q)))]) (fun q=>k<=q/\q<=n) (fun q=>n-q) k ?_ ⟨Qd _,XS⟩ ?_
     ·(refine Q6 rfl ?_ ?_ ?_ ?_<;>(try simp only[go_sem,QF,sd0])<;>(try simp))
     .intro q hq
      simp only[go_sem];refine QI (fun Vh=>?_) (fun JW=>?_)
      .have YH:q<n:=by omega
       have Kx:((q:Int)<(n:Int))=True:=Qh (by omega);have hw:IntKind.wrap .i64 ((q:Int)-(k:Int))=((q-k:Nat):Int):=by rw[Q4 (by omega) (by omega)];omega
       have oV:Q7 prog 87 [tI .i64 ((q-k:Nat):Int)] (eF (Zf (q-k))):=by
        have:=zq6 ((q-k:Nat):Int) (by omega) (by omega)
        rwa[wbB]at this
       have fv:Fv (n-k) 1 0 (Zf (q-k)):=Fv.var (by omega);have Pf:=hu i q Yz YH;have oS:=zeX fv (by omega) (by omega) (c:=u i q) (by omega);have fs:=fv.sc (c:=u i q) Pf;have f1:=Hx i Yz (q-k) (by omega);have oA:=zfd f1 fs (by omega) (by omega);have exF:=Z4 (f:=cF) Z9 Yz (g:=Gf q);rw[Pe]at exF;have ee:QP cI row q=[.lit (.bool (decide (u i q<0))),eN (dig (u i q).natAbs)]:=by rw[YG];exact zd4 YH
       have Rn:(∀ x∈row,(cI x).length=2)=True:=Qh fun x _=>rfl
       have Ro:((0:Int)<=(q:Int))=True:=Qh (by omega);have eu:eI (u i q) = .agg (cI (Yw (u i q))):=rfl;have Uk:=Ml q (QN (foJ (X i) (u i) k (q-k)) (scF (Zf (q-k)) (u i q))) (by
        rw[show q+1-k=(q-k)+1 by omega];show _=QN _ (scF _ (u i (k+(q-k))));rw[show k+(q-k)=q by omega])
       have sd:=zqA Yz (g:=Gf q) (q:=QN (foJ (X i) (u i) k (q-k)) (scF (Zf (q-k)) (u i q)));rw[Uk]at sd;have clq:=clG q;clear fv fs f1 Uk Ml;generalize QN (foJ (X i) (u i) k (q-k)) (scF (Zf (q-k)) (u i q))=g3 at *
       generalize foJ (X i) (u i) k (q-k)=g1 at *
       generalize scF (Zf (q-k)) (u i q)=g2 at *
       generalize Zf (q-k)=g0 at *
       simp only[go_sem,Vh];refine Q3 0 rfl ?_;simp only[go_sem,exF,Vz,hw]
       (repeat(refine Qg (by omega) ?_))
       refine Q2 oV rfl ?_;simp only[go_sem,er,ee,erl,YX,Vz,Kx,Rn,Ro]
       (repeat(refine Qg (by omega) ?_))
       refine Q2 oS rfl ?_;simp only[go_sem]
       (repeat(refine Qg (by omega) ?_))
       refine Q2 oA rfl ?_;simp only[go_sem,Vz,clq,sd]
       (repeat(refine Qg (by omega) ?_))
       refine⟨q+1,⟨by omega,YH⟩,(by show n-(q+1)<n-q;omega),?_⟩
       (refine Q6 rfl ?_ ?_ ?_ ?_<;>(try simp only[go_sem,QF,Q4 (n:=(q:Int)+1) (by omega) (by omega)])<;>(try simp))
      .obtain rfl:q=n:=by omega
       simp only[go_sem];refine⟨i+1,Yz,(by show q-(i+1)<q-i;omega),?_⟩;rw[<-Pd]
       (refine Q6 rfl ?_ ?_ ?_ ?_<;>(try simp only[go_sem,QF,Q4 (n:=(i:Int)+1) (by omega) (by omega)])<;>(try simp))
    .obtain rfl:i=n:=by omega
     rw[show fnG i (fun v=>if v<i then fo v else(([],0):Fm))=fnG i fo from Yo fun v hv=>Qc hv];have Rp:∀ v,v<i->Fv (i-k) UB XB (fo v):=fun v hv=>by rw[Rm];exact Hx v hv _ (Qd _)
     have SO:NX.length=T.length:=by rw[Nz];exact Qm _
     have Pg:∀ j (h:j<T.length),NX[j]'(by omega)=nwL fo T[j].2 T[j].1:=fun j h=>by subst Nz;rw[Qq]
     have Mm:∀ c∈T,∀ m,m<=c.1.length->Fv (i-k) (UB+L+m) (max L (XB+L)+m) (nwL fo c.2 (c.1.take m)):=fun c hc m hm=>zme (hT c hc) (fun v hv=>Rp v hv) m hm
     have Ke:IntKind.wrap .i64 ((i:Int)-(k:Int))=((i-k:Nat):Int):=by rw[Q4 (by omega) (by omega)];omega
     have WH:0<T.length:=wbc.2 EL;obtain⟨M,hM⟩:∃ M,M=i-k:=⟨_,rfl⟩
     rw[<-hM]at hs Mk Rp Mm Ke;clear Hx hX hu EM;simp only[go_sem,Ke];refine QJ (fun j:Nat=>if j=T.length then stL 188 [(1,.one (.ptr 1 0)),(11,.one (.vec 900000 2 0 i)),(16,.one (.vec 81 3 0 i)),(19,.one (.ptr 19 0)),(132,.one (.t (eL cF T))),(133,litI .i64 T.length),(134,litI .i64 j)] [(1,(sN T i ev).map .t),(900000,Q5 cJ (fnG i X)),(81,Q5 cF (fnG i fo)),(19,(sS NX M).map .t)]
      else stL 188 [(1,.one (.ptr 1 0)),(11,.one (.vec 900000 2 0 i)),(16,.one (.vec 81 3 0 i)),(19,.one (.ptr 19 0)),(132,.one (.t (eL cF T))),(133,litI .i64 T.length),(134,litI .i64 j)] (Zb 1002 cF (NX.take j)++[(1,(sN T i ev).map .t),(900000,Q5 cJ (fnG i X)),(81,Q5 cF (fnG i fo)),(19,[QX 1002 3 (NX.take j),.t (.lit (.int .i64 (M:Int)))])])) (fun j=>j<=T.length) (fun j=>T.length-j) 0 ?_ (Qk _) ?_
     .rw[Qb (by omega),was]
      (refine Q6 rfl ?_ ?_ ?_ ?_<;>(try simp only[go_sem,QF])<;>(try simp))
     .intro j hj
      by_cases Mo:j=T.length
      .subst Mo
       clear hj;simp only[Qc];have J0:((T.length:Int)<(T.length:Int))=False:=Ql (by omega);cases o' with
       |none =>
        simp only[go_sem,J0];refine zdL (.inr rfl) hs rfl ?_;simp only[go_sem];exact zbn rfl rfl (fun b cs hb=>by cases hb)
       |some y =>
        have hy:=Mk y rfl;simp only[go_sem,J0];refine zdK 900001 (.inr rfl) hs rfl (by simp only[go_sem]) (by decide) ?_;simp only[go_sem];refine QJ (fun v:Nat=>stL 188 [(11,.one (.vec 900000 2 0 i)),(25,.one (.vec 900001 2 0 M)),(173,.one (.vec 81 3 0 i)),(174,litI .i64 i),(175,litI .i64 v)]
          [(900000,Q5 cJ (fnG i fun w=>if w<v then atF (fo w) y else X w)),(81,Q5 cF (fnG i fo)),(900001,Q5 cJ (fnG M y))]) (fun v=>v<=i) (fun v=>i-v) 0 ?_ (Qk _) ?_
        .rw[show(fun w=>if w<0 then atF (fo w) y else X w)=X from funext fun w=>Qb (by omega)]
         (refine Q6 rfl ?_ ?_ ?_ ?_<;>(try simp only[go_sem,QF])<;>(try simp))
        .intro v hv
         simp only[go_sem];refine QI (fun Y1=>?_) (fun YI=>?_)
         .have Yz:v<i:=by omega
          have Vn:((v:Int)<(i:Int))=True:=Qh (by omega);have f1:=Rp v Yz;have exF:=Z4 (f:=cF) Z9 Yz (g:=fo);have clF:=zi4 (n:=i) (g:=fo);have clX:=zaD (n:=i) (g:=fun w=>if w<v then atF (fo w) y else X w);have rd:=fun H (h:H 900001=some (Q5 cJ (fnG M y)))=>zl5 (fo v) y 900001 (n:=M) (C:=UB) (K:=XB) (B:=B) (by omega) (by omega) (by omega) f1 hy (H:=H) h
          have sd:=zbF Yz (g:=fun w=>if w<v then atF (fo w) y else X w) (q:=atF (fo v) y);have e1:(fun w=>if w=v then atF (fo v) y else if w<v then atF (fo w) y else X w)=fun w=>if w<v+1 then atF (fo w) y else X w:=funext fun w=>by
           by_cases c:w=v
           .rw[Qc c,Qc (by omega),c]
           .rw[Qb c]
            by_cases c2:w<v
            .rw[Qc c2,Qc (by omega)]
            .rw[Qb c2,Qb (by omega)]
          rw[e1]at sd;generalize atF (fo v) y=z at *
          generalize UF:fo v=g0 at *
          simp only[go_sem,exF,Vn]
          (repeat(refine Qg (by omega) ?_))
          refine zbL (.inr rfl) (rd _ (by simp only[go_sem]<;>rfl)) ?_;simp only[go_sem,clX,Vn]
          (repeat(refine Qg (by omega) ?_))
          refine⟨v+1,Yz,(by show i-(v+1)<i-v;omega),?_⟩
          (refine Q6 rfl ?_ ?_ ?_ ?_<;>(try simp only[go_sem,QF,sd,Q4 (n:=(v:Int)+1) (by omega) (by omega)])<;>(try simp))
         .obtain rfl:v=i:=by omega
          rw[show fnG v (fun w=>if w<v then atF (fo w) y else X w)=fnG v fun w=>atF (fo w) y from Yo fun w hw=>Qc hw];simp only[go_sem];exact zbn rfl rfl (zcM fun p hp=>by cases hp;simp only[go_sem]<;>rfl)
      .simp only[Qb Mo]
       have Rq:j<T.length:=by omega
       have Hy:QP cF T j=cF T[j]:=Q8 Rq;have KJ:((j:Int)<(T.length:Int))=True:=Qh (by omega);have hc:=hT _ (Qf Rq);have XD:=Mm _ (Qf Rq);have Hz:=Zl (l:=NX) (i:=j) (by omega);rw[Pg j Rq]at Hz;have Ph:(NX.take j).length<=8000:=by rw[waB];omega
       have Xo:=zgG hc.wf hc.lt;generalize T[j]=c at *
       generalize Mp:NX.take j=RA at *
       have o1:=zeW c.2 (by have:=hc.ko;omega);have clF:=zi4 (n:=i) (g:=fo);simp only[go_sem,Hy,KJ]
       (repeat(refine Qg (by omega) ?_))
       refine Q2 o1 rfl ?_;have e0:Zd c.2=nwL fo c.2 (c.1.take 0):=by rw[was];rfl
       rw[e0];simp only[go_sem];refine QJ (fun m:Nat=>stL 188 [(1,.one (.ptr 1 0)),(11,.one (.vec 900000 2 0 i)),(16,.one (.vec 81 3 0 i)),(19,.one (.ptr 19 0)),(22,.one (.ptr 22 0)),(132,.one (.t (eL cF T))),(133,litI .i64 T.length),(134,litI .i64 j),(142,.one (.t (eL cMn c.1))),(143,litI .i64 c.1.length),(144,litI .i64 m)]
         (Zb 1002 cF RA++[(1,(sN T i ev).map .t),(900000,Q5 cJ (fnG i X)),(81,Q5 cF (fnG i fo)),(19,[QX 1002 3 RA,.t (.lit (.int .i64 (M:Int)))]),(22,(cF (nwL fo c.2 (c.1.take m))).map .t)])) (fun m=>m<=c.1.length) (fun m=>c.1.length-m) 0 ?_ (Qk _) ?_
       ·(refine Q6 rfl ?_ ?_ ?_ ?_<;>(try simp only[go_sem,QF])<;>(try simp))
       .intro m hm
        simp only[go_sem];refine QI (fun H0=>?_) (fun Pi=>?_)
        .have UW:m<c.1.length:=by omega
         have HA:QP cMn c.1 m=cMn c.1[m]:=Q8 UW;have Do:=hc.lt _ (Qf UW);have Pj:=hc.co _ (Qf UW);have f1:=XD m (by omega);have V3:nwL fo c.2 (c.1.take (m+1))=QN (nwL fo c.2 (c.1.take m)) (scF (fo c.1[m].1) c.1[m].2):=by rw[Zl UW,zoY]
         generalize c.1[m]=q at *
         have f2:=Rp _ Do;have oS:=zeX f2 (by omega) (by omega) (c:=q.2) (by omega);have oA:=zfd f1 (f2.sc Pj) (by omega) (by omega);have exF:=Z4 (f:=cF) Z9 Do (g:=fo);have Kx:((q.1:Int)<(i:Int))=True:=Qh (by omega);have Mq:((0:Int)<=(q.1:Int))=True:=Qh (by omega);rw[<-V3]at oA;clear f1 f2 V3;generalize Hl:nwL fo c.2 (c.1.take (m+1))=g3 at *
         generalize nwL fo c.2 (c.1.take m)=g1 at *
         generalize Wy:scF (fo q.1) q.2=g2 at *
         generalize UF:fo q.1=g0 at *
         simp only[go_sem,HA,H0]
         (repeat(refine Qg (by omega) ?_))
         refine Q3 0 rfl ?_;simp only[go_sem,exF,Kx,Mq]
         (repeat(refine Qg (by omega) ?_))
         refine Q2 oS rfl ?_;simp only[go_sem]
         (repeat(refine Qg (by omega) ?_))
         refine Q2 oA rfl ?_;simp only[go_sem];refine⟨m+1,UW,(by show c.1.length-(m+1)<c.1.length-m;omega),?_⟩
         (refine Q6 rfl ?_ ?_ ?_ ?_<;>(try simp only[go_sem,QF,Hl,Q4 (n:=(m:Int)+1) (by omega) (by omega)])<;>(try simp))
        .obtain rfl:m=c.1.length:=by omega
         rw[waa]at *
         generalize SP:nwL fo c.2 c.1=cN at *
         simp only[go_sem];refine ZF (sz:=3) (bytes:=56) (by simp only[go_sem,QW]<;>decide) Z9 RA [cN] (b:=1002) (by simp only[go_sem]<;>rfl) (by simp only[go_sem]<;>rfl) (by simp only[go_sem]<;>rfl) rfl (by simp) (by simp only[Qe,Qi]at *;omega) (by decide) ?_;simp only[go_sem];refine⟨j+1,by omega,(by show T.length-(j+1)<T.length-j;omega),?_⟩;by_cases e3:j+1=T.length
         .have eN2:NX=RA++[cN]:=by rw[<-Hz,waM (by omega)]
          have EO:QX 1002 3 (RA++[cN])=Go.Abs.C.vec 1002 3 0 (RA++[cN]).length:=by cases RA<;>rfl
          have Dt:∀ o,ZK cF (RA++[cN]) o=some (Q5 cF (RA++[cN])):=fun o=>by cases RA<;>rfl
          simp only[Qc e3];rw[eN2];generalize RA++[cN]=RA2 at *
          refine GStep.trans (zbj (b:=1002) (sz:=3) (len:=RA2.length) (by simp only[go_sem]<;>rfl) (Yp Z9)) ?_
          (refine Q6 rfl ?_ ?_ ?_ ?_<;>(try simp only[go_sem,QF,EO,Q4 (n:=(j:Int)+1) (by omega) (by omega)])<;>(try simp))
         .simp only[Qb e3]
          (refine Q6 rfl ?_ ?_ ?_ ?_<;>(try simp only[go_sem,QF,Hz,Q4 (n:=(j:Int)+1) (by omega) (by omega)])<;>(try simp))
  .unfold eqS
   simp only[Qb Ds];have Yz:i<ev.length:=by omega
   have WQ:((i:Int)<(R:Int))=True:=Qh (by omega);have Y5:QP cF ev i=cF ev[i]:=Q8 Yz;have hf:=he _ (Qf Yz);have JC:=zu7 (n:=n) Yz;have Mr:=ztD Yz;have Pk:(evA n (ev.take i)).length<=8000:=by rw[zcN,waB];omega
   have SQ:((ev.take i).map fun e=>-e.2).length<=8000:=by rw[Qm,waB];omega
   have Xu:((0:Int)<=(n:Int))=True:=Qh (by omega);generalize Mp:evA n (ev.take i)=RA at *
   generalize SS:(ev.take i).map (fun e=>-e.2)=RB at *
   generalize ev[i]=e at *
   obtain⟨ROW,Du⟩:∃ ROW:List RI,ROW=fnG n fun j=>Yw (coM e.1 j):=⟨_,rfl⟩
   have XM:IntKind.wrap .i64 ((i:Int)+1)=((i+1:Nat):Int):=by rw[Q4 (by omega) (by omega)];omega
   obtain⟨CM,WA⟩:∃ CM,CM=stL 188 [(1,.one (.ptr 1 0)),(4,zae 1000 1 (RA++[ROW])),(5,zae 1001 2 (RB++[-(e.2)])),(29,.one (.t (eL cF ev))),(30,litI .i64 R),(31,litI .i64 (i+1:Nat))]
    (Zb 1000 cMw (RA++[ROW])++(Zb 1001 cJ (RB++[-(e.2)])++[(1,(sN T n ev).map .t)])):=⟨_,rfl⟩
   rw[<-Du]at JC;have Y9:Go.Abs.GStep CM (eqS T n ev R (i+1)):=by
    unfold eqS;by_cases e2:i+1=R
    .rw[Qc e2,WA]
     have eA:evA n ev=RA++[ROW]:=by rw[<-JC,waM (by omega)]
     have eB:eL cI (evB ev)=eL cJ (RB++[-(e.2)]):=by rw[<-zyd,<-Mr,waM (by omega)]
     rw[eA,eB];have Pl:QX 1000 1 (RA++[ROW])=Go.Abs.C.vec 1000 1 0 (RA++[ROW]).length:=by cases RA<;>rfl
     have Pm:QX 1001 2 (RB++[-(e.2)])=Go.Abs.C.vec 1001 2 0 (RB++[-(e.2)]).length:=by cases RB<;>rfl
     have HB:∀ o,ZK cMw (RA++[ROW]) o=some (Q5 cMw (RA++[ROW])):=fun o=>by cases RA<;>rfl
     have Ms:∀ o,ZK cJ (RB++[-(e.2)]) o=some (Q5 cJ (RB++[-(e.2)])):=fun o=>by cases RB<;>rfl
     generalize RA++[ROW]=RA2 at *
     generalize RB++[-(e.2)]=RB2 at *
     refine GStep.trans (zbj (b:=1000) (sz:=1) (len:=RA2.length) (by simp only[go_sem,HB]<;>rfl) (Yp zju)) ?_;refine GStep.trans (zbj (b:=1001) (sz:=2) (len:=RB2.length) (by simp only[go_sem,HB,Ms]<;>rfl) (Yp Yj)) ?_
     (refine Q6 rfl ?_ ?_ ?_ ?_<;>(try simp only[go_sem,Pl,Pm,HB,Ms])<;>(try simp))
    .rw[Qb e2,WA]
     (refine Q6 rfl ?_ ?_ ?_ ?_<;>(try simp only[go_sem,JC,Mr])<;>(try simp))
   have oN:=zbN e.2 (by have:=hf.ko;omega);simp only[go_sem,Y5,WQ,Xu]
   (repeat(refine Qg (by omega) ?_))
   refine QJ (fun j:Nat=>stL 188 [(1,.one (.ptr 1 0)),(4,zae 1000 1 RA),(5,zae 1001 2 RB),(7,.one (.ptr 7 0)),(8,.one (.vec 38 2 0 n)),(29,.one (.t (eL cF ev))),(30,litI .i64 R),(31,litI .i64 i),(40,.one (.t (eL cMn e.1))),(41,litI .i64 e.1.length),(42,litI .i64 j)]
     (Zb 1000 cMw RA++(Zb 1001 cJ RB++[(1,(sN T n ev).map .t),(7,(cF e).map .t),(38,Q5 cJ (fnG n (coM (e.1.take j))))]))) (fun j=>j<=e.1.length) (fun j=>e.1.length-j) 0 ?_ (Qk _) ?_
   .refine GStep.trans (zaA 38 (cs:=Zh n [Abs.C.t (Abs.T.lit (Value.bool false)),Abs.C.t (Abs.T.seq (some true) [])]) (by simp only[go_sem]<;>rfl) (zgb n)) ?_
    rw[was,show coM []=fun _=>0 from rfl]
    (refine Q6 rfl ?_ ?_ ?_ ?_<;>(try simp only[go_sem,QF])<;>(try simp))
   .intro j hj
    simp only[go_sem];refine QI (fun Vh=>?_) (fun JW=>?_)
    .have YH:j<e.1.length:=by omega
     have YQ:QP cMn e.1 j=cMn e.1[j]:=Q8 YH;have Ha:=hf.lt _ (Qf YH);have KM:=zgG hf.wf hf.lt;have VM:=fun v=>zoU hf.wf YH v
     have cl:=zaD (n:=n) (g:=coM (e.1.take j));have sd:=zbF (n:=n) (g:=coM (e.1.take j)) Ha (q:=e.1[j].2);have sde:fnG n (fun v=>if v=e.1[j].1 then e.1[j].2 else coM (e.1.take j) v)=fnG n (coM (e.1.take (j+1))):=Yo fun v _=>(VM v).symm
     rw[sde]at sd;generalize e.1[j]=q at *
     have RJ:((0:Int)<=(q.1:Int))=True:=Qh (by omega);have XK:((q.1:Int)<(n:Int))=True:=Qh (by omega);simp only[go_sem,YQ,Vh,RJ,XK,cl,sd]
     (repeat(refine Qg (by omega) ?_))
     refine⟨j+1,YH,(by show e.1.length-(j+1)<e.1.length-j;omega),?_⟩
     (refine Q6 rfl ?_ ?_ ?_ ?_<;>(try simp only[go_sem,QF,Q4 (n:=(j:Int)+1) (by omega) (by omega)])<;>(try simp))
    .obtain rfl:j=e.1.length:=by omega
     rw[waa];simp only[go_sem];refine zqs (zbj (b:=38) (sz:=2) (len:=n) (by simp only[go_sem]<;>rfl) (Du▸zu6)) ?_;refine zde 12 rfl ?_;refine QK.take' 0 rfl (by decide +kernel) (by decide +kernel) (by decide +kernel) (by simp only[go_sem]) (zdD rfl) ?_;refine QK.take' 1 rfl (by decide +kernel) (by decide +kernel) (by decide +kernel) (by simp only[go_sem]) (zdD rfl) ?_;refine QK.take' 4 rfl (by decide +kernel) (by decide +kernel) (by decide +kernel) (by simp only[go_sem]) (zdD rfl) ?_;refine QK.take' 5 rfl (by decide +kernel) (by decide +kernel) (by decide +kernel) (by simp only[go_sem]) (zkc rfl (by simp only[go_sem]) (by simp only[go_sem]) (by simp only[go_sem]) (by simp only[go_sem]) (by simp only[go_sem]) (by simp only[go_sem])) ?_
     (try simp only[go_sem])
     refine QK.two' 2 6 (by decide +kernel) rfl rfl (by simp only[go_sem]) (by simp only[go_sem]) ?_ ?_
     ·(try simp only[go_sem])
      refine QK.two' 3 6 (by decide +kernel) rfl rfl (by simp only[go_sem]) (by simp only[go_sem]) ?_ ?_
      .simp only[go_sem]
       refine ZF (sz:=1) (bytes:=24) (by simp only[go_sem,QW]<;>decide) zju RA [ROW] (b:=1000) (by simp only[go_sem]<;>rfl) (by simp only[go_sem]<;>rfl) (by simp only[go_sem]<;>rfl) rfl (by simp) (by simp only[Qe,Qi]at *;omega) (by decide) ?_
       (try simp only[go_sem])
       refine QK.ord [0,1,2,3,4,5] 0 [6,7,8,9,10,11] (by decide +kernel) (by decide +kernel) (by decide +kernel) (by decide +kernel) (by decide +kernel) (by decide) ?_;simp only[Zq,wbh,wbi,waZ,wa6,wa0];simp only[go_sem];refine Q2 oN rfl ?_
       (try simp only[go_sem])
       refine ZF (sz:=2) (bytes:=32) (by simp only[go_sem,QW]<;>decide) Yj RB [-(e.2)] (b:=1001) (by simp only[go_sem]<;>rfl) (by simp only[go_sem]<;>rfl) (by simp only[go_sem]<;>rfl) rfl (by simp) (by simp only[Qe,Qi]at *;omega) (by decide) ?_
       (try simp only[go_sem])
       refine⟨i+1,by omega,(by show R-(i+1)<R-i;omega),GStep.trans (σ₁:=CM) ?_ Y9⟩;rw[WA]
       (refine Q6 rfl ?_ ?_ ?_ ?_<;>(try simp only[go_sem,XM])<;>(try simp))
      ·(try simp only[go_sem])
       refine QK.ord [0,1,2,4,5,6] 0 [3,7,8,9,10,11] (by decide +kernel) (by decide +kernel) (by decide +kernel) (by decide +kernel) (by decide +kernel) (by decide) ?_;simp only[Zq,wbh,wbi,waZ,wa6,wa0];simp only[go_sem];refine ZF (sz:=1) (bytes:=24) (by simp only[go_sem,QW]<;>decide) zju RA [ROW] (b:=1000) (by simp only[go_sem]<;>rfl) (by simp only[go_sem]<;>rfl) (by simp only[go_sem]<;>rfl) rfl (by simp) (by simp only[Qe,Qi]at *;omega) (by decide) ?_
       (try simp only[go_sem])
       refine Q2 oN rfl ?_
       (try simp only[go_sem])
       refine ZF (sz:=2) (bytes:=32) (by simp only[go_sem,QW]<;>decide) Yj RB [-(e.2)] (b:=1001) (by simp only[go_sem]<;>rfl) (by simp only[go_sem]<;>rfl) (by simp only[go_sem]<;>rfl) rfl (by simp) (by simp only[Qe,Qi]at *;omega) (by decide) ?_
       (try simp only[go_sem])
       refine⟨i+1,by omega,(by show R-(i+1)<R-i;omega),GStep.trans (σ₁:=CM) ?_ Y9⟩;rw[WA]
       (refine Q6 rfl ?_ ?_ ?_ ?_<;>(try simp only[go_sem,XM])<;>(try simp))
     ·(try simp only[go_sem])
      refine QK.ord [0,1,4,5,6] 0 [2,3,7,8,9,10,11] (by decide +kernel) (by decide +kernel) (by decide +kernel) (by decide +kernel) (by decide +kernel) (by decide) ?_;simp only[Zq,wbh,wbi,waZ,wa6,wa0];simp only[go_sem];refine ZF (sz:=1) (bytes:=24) (by simp only[go_sem,QW]<;>decide) zju RA [ROW] (b:=1000) (by simp only[go_sem]<;>rfl) (by simp only[go_sem]<;>rfl) (by simp only[go_sem]<;>rfl) rfl (by simp) (by simp only[Qe,Qi]at *;omega) (by decide) ?_
      (try simp only[go_sem])
      refine Q2 oN rfl ?_
      (try simp only[go_sem])
      refine ZF (sz:=2) (bytes:=32) (by simp only[go_sem,QW]<;>decide) Yj RB [-(e.2)] (b:=1001) (by simp only[go_sem]<;>rfl) (by simp only[go_sem]<;>rfl) (by simp only[go_sem]<;>rfl) rfl (by simp) (by simp only[Qe,Qi]at *;omega) (by decide) ?_
      (try simp only[go_sem])
      refine⟨i+1,by omega,(by show R-(i+1)<R-i;omega),GStep.trans (σ₁:=CM) ?_ Y9⟩;rw[WA]
      (refine Q6 rfl ?_ ?_ ?_ ?_<;>(try simp only[go_sem,XM])<;>(try simp))
theorem zvn(T ev:List Fm){n L k ee U Y G B r:Nat}{GG:Nat->Nat->Int}(hn:n<=4)(hL:L<=500000000)(R8:T.length<=8000)(EL:T≠[])(Y5:ev.length<=8000)(Gq:ev≠[])(hT:∀ f∈T,Fv n L L f)(YL:∀ e∈ev,e∈T)(K5:∀ e∈ev,e.1≠[])
  (Jy:∀ p,Sat T p->∀ e∈ev,atF e p=0) (PE:∀ f∈T,Ys r GG f) (hk:k=(QG (atW (evA n ev)) n ev.length ev.length).2) (EI:ee=eeG (30*L) k) (hU:U=ee/29+1) (hY:Y=(30*L+(ee+4)*(k+1))/29+3) (hG:G=(30*Y+(ee+13)*(k+1)+13)/29+1)
  (PF:1<=k->k<=n->k<=r->U<=500000000/\G<=500000000) (hB:B<=3000000000)
  (hs:∀ NX r' GG',1<=k->k<=n->r'+k=r->NX.length=T.length->(∀ f∈NX,Fv (n-k) (U+Y+L+20) (U+Y+L+20) f)->(∀ f∈NX,Ys r' GG' f)->zbq NX (n-k) B) :
  ∃ o,(1<=k/\k<=n/\k<=r)/\zbV T n (U+Y+B+20) o/\SoC 52 [.agg (sN T n ev)] n o:=by
 have he:∀ f∈ev,Fv n L L f:=fun f hf=>hT f (YL f hf)
 obtain⟨R,hR⟩:∃ R,R=ev.length:=⟨_,rfl⟩
 have Mp:(evA n ev).length=R:=by rw[zcN,hR]
 obtain⟨S,hS⟩:∃ S,S=(QG (atW (evA n ev)) n (evA n ev).length (evA n ev).length).1:=⟨_,rfl⟩
 obtain⟨pv,VL⟩:∃ pv,pv=pvS (atW (evA n ev)) n (evA n ev).length:=⟨_,rfl⟩
 obtain⟨kk,Ud⟩:∃ kk:Nat->Nat,kk=fun r=>(QG (atW (evA n ev)) n (evA n ev).length r).2:=⟨_,rfl⟩
 have NK:k=kk (evA n ev).length:=by rw[Ud,hk,zcN]
 have Kn:∀ i j,(atW (evA n ev) i j).natAbs<=2^(30*L):=fun i j=>zxj he i j
 have HN:∀ r,(atR (evB ev) r).natAbs<=2^(30*L):=fun r=>zxk he r
 have hp:=znD (a:=atW (evA n ev)) (n:=n) (R:=(evA n ev).length) (e0:=30*L) (by omega) fun r c _ _=>Kn r c
 rw[<-hS,<-VL,<-Ud]at hp;have XV:InvH (atW (evA n ev)) n (evA n ev).length S:=by rw[hS];exact znA _
 obtain⟨Tb,DP,Ld,DQ⟩:=zg4 (zcZ S pv kk (atR (evB ev))) (evA n ev).length;obtain⟨UO,FO⟩:=zwI (a:=evA n ev) (b:=evB ev) (n:=n) (e0:=30*L) Kn HN (by omega) (by rw[zcN];exact Y5) Tb hS VL Ud NK EI hY hG;rw[<-hU]at UO;have Np:=zwH (a:=evA n ev) (n:=n) (e0:=30*L) (k:=k) (by omega) Kn (by rw[NK,Ud]);rw[<-EI,<-hU]at Np;have VG:1<=k:=by rw[NK];exact zyz (fun f hf=>⟨he f hf,K5 f hf⟩) Gq hp XV
 obtain⟨r',GG',hr,MK⟩:=zvH (T:=T) (ev:=ev) (r:=r) (G:=GG) hT YL hp XV PE;rw[<-NK]at hr;have XS:k<=n:=by rw[NK];exact(hp.shp.le _ (Qd _)).1
 obtain⟨Le,PG⟩:=PF VG XS (by omega);have hA:=zxM (evA n ev) (evB ev) n (K:=U) (L:=L) (B:=G) Le hL PG (by omega) (by rw[zcN];omega) (fun row YG=>by
  unfold evA at YG;obtain⟨e,hm,rfl⟩:=Qp.1 YG;exact zl2 (by omega) fun c _=>(he e hm).lco c) ⟨by unfold evB;rw[Qm];omega,fun p hp=>by
   unfold evB at hp;obtain⟨e,hm,rfl⟩:=Qp.1 hp;have:=(he e hm).ko;have h2:=Zw e.2;show(dig (-e.2).natAbs).length<=L;have h3:lN (-e.2)=(dig (-e.2).natAbs).length:=rfl;omega⟩ Np hS VL Ud Tb DP Ld DQ UO
 obtain⟨X,hX⟩:∃ X,X=zfP S pv kk (atR (evB ev)) n (evA n ev).length:=⟨_,rfl⟩
 obtain⟨fo,Rm⟩:∃ fo,fo=foS S pv kk (atR (evB ev)) n (evA n ev).length:=⟨_,rfl⟩
 have Rx:∀ i,fo i=foJ (X i) (S.u i) k (n-k):=fun i=>by rw[Rm,hX,NK];rfl
 have RO:∀ i,i<n->lN (X i)<=U+Y+4:=fun i hi=>by
  rw[hX];have:=zjH (f:=fun j=>S.u i j*ZD S pv kk (atR (evB ev)) (evA n ev).length j) (C:=U+Y) (m:=n) fun j hj=>by
   have h1:=UO.u i j hi hj;have h2:=FO _ (Qd _) j;have h3:=ZS (S.u i j) (ZD S pv kk (atR (evB ev)) (evA n ev).length j);omega
  show lN (smI _ n)<=_;omega
 have Wk:∀ i j,i<n->j<n->lN (S.u i j)<=U:=UO.u;have Rp:∀ i,i<n->Fv (n-k) U (U+Y+4) (fo i):=fun i hi=>by rw[Rx];exact zjl (RO i hi) (fun j hj=>Wk i (k+j) hi (by omega)) _ (Qd _)
 obtain⟨NX,Nz⟩:∃ NX,NX=zh1 S pv kk (atR (evB ev)) n (evA n ev).length T:=⟨_,rfl⟩
 have Ry:NX=T.map fun c=>nwL fo c.2 c.1:=by rw[Nz,Rm];rfl
 rw[<-Nz]at MK;have PH:∀ f∈NX,Fv (n-k) (U+Y+L+20) (U+Y+L+20) f:=fun f hf=>by
  rw[Ry]at hf;obtain⟨c,hc,rfl⟩:=Qp.1 hf;have h1:=zme (hT c hc) Rp c.1.length (Qd _);rw[waa]at h1;have h2:=zgG (hT c hc).wf (hT c hc).lt;exact h1.mono (Qd _) (by omega) (by omega)
 have Pb:Y<=G:=by rw[hG];omega
 obtain⟨o',Va,Jl⟩:=hs NX r' GG' VG XS hr (by rw[Ry,Qm]) PH MK;by_cases Dj:Tb<(evA n ev).length
 .unfold zc0 zeQ at hA
  rw[Qc Dj,Qc Dj]at hA;refine⟨none,⟨VG,XS,by omega⟩,fun p Wn=>?_,zqB T ev (L:=L) (UB:=U) (XB:=U+Y+4) (B:=B) hR hn hL R8 EL Y5 Gq hT he Le (by omega) hB RO Wk XS Rx Ry (.inl ⟨hA,rfl⟩)⟩;have:=ztJ hp XV DP DQ (x:=p) (znR hT YL (Jy p Wn));omega
 .unfold zc0 zeQ at hA
  rw[Qb Dj,Qb Dj,<-hX,<-NK]at hA;refine⟨o'.map fun y v=>atF (fo v) y,⟨VG,XS,by omega⟩,?_,zqB T ev (L:=L) (UB:=U) (XB:=U+Y+4) (B:=B) (why:=.junk) hR hn hL R8 EL Y5 Gq hT he Le (by omega) hB RO Wk XS Rx Ry (.inr ⟨hA,o',Jl,(fun y hy=>by rw[hy]at Va;exact Va.2),rfl⟩)⟩;cases o' with
  |none =>
   intro p Wn;obtain⟨y,hy⟩:=zxl hT YL hp XV Wn (Jy p Wn);rw[<-Nz]at hy;exact Va y hy
  |some y =>
   refine⟨?_,fun v hv=>?_⟩
   .have:=Va.1
    rw[Nz]at this;have h2:=zo1.1 this;rw[<-Rm]at h2;exact h2
   .show lN (atF (fo v) y)<=_
    rw[Rx,zhI];have h1:=zjH (f:=fun j=>S.u v (k+j)*y j) (C:=U+B) (m:=n-k) fun j hj=>by
     have h1:=Wk v (k+j) hv (by omega);have h2:=Va.2 j hj;have h3:=ZS (S.u v (k+j)) (y j);omega
    have h2:=za8 (X v) (smI (fun j=>S.u v (k+j)*y j) (n-k));have h3:=RO v hv;omega
theorem zsY(ls:List Fm)(n:Nat)(V1:Q7 prog 51 [.agg (sS ls n)] (.tup [.agg [.junk,.junk,.junk],tB false])):SoC 31 [.agg (sS ls n)] n none:=by
 refine zcq QB call31 func31 rfl ntmps31 results31 (by simp) (by decide) ?_ ?_ ?_
 .exact zby
 .exact zdS
 simp only[go_sem];refine Q2 V1 rfl ?_;simp only[go_sem];exact zbn rfl rfl (fun b cs hb=>by cases hb)
theorem zr5(ls:List Fm){n:Nat}(hn:n<=1000)(V1:Q7 prog 51 [.agg (sS ls n)] (.tup [.agg (sN [] n []),tB true])):SoC 31 [.agg (sS ls n)] n (some fun _=>0):=by
 have Xu:((0:Int)<=(n:Int))=True:=Qh (by omega);refine zmM QB call31 func31 rfl ntmps31 results31 (by simp) (by decide) ?_ ?_ ?_
 .exact zby
 .exact zdS
 simp only[go_sem];refine Q2 V1 rfl ?_;simp only[go_sem,Xu]
 (repeat(refine Qg (by omega) ?_))
 refine⟨_,GStep.trans (zaA 25 (cs:=Zh n [Abs.C.t (Abs.T.lit (Value.bool false)),Abs.C.t (Abs.T.seq (some true) [])]) (by simp only[go_sem]<;>rfl) (zgb n)) (zdd (b:=25) (b':=900000) (by simp only[go_sem]) (by decide) (by decide)),?_⟩;simp only[go_sem];exact zbn rfl rfl (zcM fun p hp=>by cases hp;simp only[go_sem]<;>rfl)
theorem zr6(ls T ev:List Fm){n:Nat}{o:Option (Nat->Int)}(hn:n<=4)(WH:T≠[])(R8:T.length<100000000)(Y5:ev.length<100000000)(K5:ev≠[])(V1:Q7 prog 51 [.agg (sS ls n)] (.tup [.agg (sN T n ev),tB true]))
  (hq:SoC 52 [.agg (sN T n ev)] n o):SoC 31 [.agg (sS ls n)] n o:=by
 have e0:0<T.length:=wbc.2 WH;have e2:0<ev.length:=wbc.2 K5;have c1:((T.length:Int)=0)=False:=Ql (by omega);have c2:((ev.length:Int)>0)=True:=Qh (by omega);have c3:((0:Int)<(ev.length:Int))=True:=Qh (by omega);refine zcq QB call31 func31 rfl ntmps31 results31 (by simp) (by decide) ?_ ?_ ?_
 .exact zby
 .exact zdS
 simp only[go_sem];refine Q2 V1 rfl ?_;simp only[go_sem,c1,c2];cases o with
 |none =>
  refine zdL (.inr rfl) hq rfl ?_;simp only[go_sem];exact zbn rfl rfl (fun b cs hb=>by cases hb)
 |some p =>
  refine zdK 900000 (.inr rfl) hq rfl (by simp only[go_sem]) (by decide) ?_;simp only[go_sem];exact zbn rfl rfl (zcM fun p hp=>by cases hp;simp only[go_sem]<;>rfl)
theorem zsZ(ls T:List Fm){n B B2:Nat}(hn:n<=4)(WH:T≠[])(R8:T.length<100000000)(V1:Q7 prog 51 [.agg (sS ls n)] (.tup [.agg (sN T n []),tB true]))
  (hb:zgN T n B 40) (he:∃ o,zbV T n B2 o/\SoC 54 [.agg (sN T n [])] n o) (Ss:B<=B2):∃ o,zbV T n B2 o/\SoC 31 [.agg (sS ls n)] n o:=by
 have e0:0<T.length:=wbc.2 WH;have c1:((T.length:Int)=0)=False:=Ql (by omega);obtain⟨ob,kn,l',Ev,Fk,Ly⟩:=hb;cases kn with
 |true =>
  cases ob with
  |none =>
   refine⟨none,Fk rfl,?_⟩;refine zcq QB call31 func31 rfl ntmps31 results31 (by simp) (by decide) ?_ ?_ ?_
   .exact zby
   .exact zdS
   simp only[go_sem];refine Q2 V1 rfl ?_;simp only[go_sem,c1];refine zhb 6 (.inr rfl) Ly rfl (by simp only[go_sem]<;>rfl) ?_;simp only[go_sem];exact zbn rfl rfl (fun b cs hb=>by cases hb)
  |some p =>
   refine⟨some p,⟨Fk.2.1,fun v hv=>Qo (Fk.2.2 v hv) Ss⟩,?_⟩;refine zcq QB call31 func31 rfl ntmps31 results31 (by simp) (by decide) ?_ ?_ ?_
   .exact zby
   .exact zdS
   simp only[go_sem];refine Q2 V1 rfl ?_;simp only[go_sem,c1];refine zkX 6 (.inr rfl) Ly rfl (by simp only[go_sem]<;>rfl) (by simp only[go_sem]) (by decide) ?_;simp only[go_sem];exact zbn rfl rfl (zcM fun p hp=>by cases hp;simp only[go_sem]<;>rfl)
 |false =>
  cases ob with
  |some p=>exact Qn Fk.1 (by decide)
  |none =>
   obtain⟨o,Va,Jl⟩:=he;refine⟨o,Va,?_⟩;refine zcq QB call31 func31 rfl ntmps31 results31 (by simp) (by decide) ?_ ?_ ?_
   .exact zby
   .exact zdS
   simp only[go_sem];refine Q2 V1 rfl ?_;simp only[go_sem,c1];refine zhb 6 (.inr rfl) Ly rfl (by simp only[go_sem]<;>rfl) ?_;simp only[go_sem];cases o with
   |none =>
    refine zdL (.inr rfl) Jl rfl ?_;simp only[go_sem];exact zbn rfl rfl (fun b cs hb=>by cases hb)
   |some p =>
    refine zdK 900000 (.inr rfl) Jl rfl (by simp only[go_sem]) (by decide) ?_;simp only[go_sem];exact zbn rfl rfl (zcM fun p hp=>by cases hp;simp only[go_sem]<;>rfl)
end Go.Proofs.YtlgjjcmljmjenaaGreat
