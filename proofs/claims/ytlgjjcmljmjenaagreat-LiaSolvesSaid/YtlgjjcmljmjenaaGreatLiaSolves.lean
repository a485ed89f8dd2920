/- At every input the call answers true and leaves its arguments as they were; no conditions. -/
import Derived.Test.YtlgjjcmljmjenaaGreatWe
import Derived.Test.YtlgjjcmljmjenaaGreatQa
import Derived.Test.YtlgjjcmljmjenaaGreatSb
set_option linter.unusedSimpArgs false
set_option linter.unusedVariables false
set_option maxRecDepth 100000
set_option maxHeartbeats 32000000
namespace Go.Proofs.YtlgjjcmljmjenaaGreat
open Go Go.Abs Go.Proofs.Tryz
theorem zs1(n:Nat):Q5 cJ (fnG n fun _=>0)=Q5 cI (fnG n fun _=>(false,[])):=by
 have h:cJ 0=cI (false,[]):=by
  show[Abs.T.lit (.bool (decide ((0:Int)<0))),eN (dig (0:Int).natAbs)]=_;rw[show(0:Int).natAbs=0 from rfl,Zi];rfl
 unfold Q5 fnG;simp only[wac,Function.comp_def,h]
instance (k:Nat) (l:LL):Decidable (okL k l):=by unfold okL;exact inferInstance
theorem zyK{n:Nat}{g:Nat->RI}{i:Nat}(hi:i<n){q:RI}:(Q5 cI (fnG n g)).take (i*2)++Abs.C.t (.lit (.bool q.1))::Abs.C.t (eN q.2)::(Q5 cI (fnG n g)).drop (i*2+2)=Q5 cI (fnG n (fun v=>if v=i then q else g v)):=by
 have:=zgl (f:=cI) (sz:=2) (fun _=>rfl) hi (g:=g) (y:=q);rw[<-this];simp[Yh,cI]
theorem zoR(fs:List Fm){n:Nat}(hn:n<=4)(hl:fs.length<=60)(h:∀ f∈fs,Fv n 1 1 f)(q:List RI)(hq:q.length<=1000)(MS:∀ z∈q,z.2.length<=4)(X9:∀ p,¬Sat fs p):Q9 prog 15 [.one (eL cF fs),tLI q] (tB false):=by
 have ha:=zqv (fs.map ZP) q (N:=4) (L:=1) (K:=4) (by decide) (by decide) (by decide) (by rw[Qm];omega) (fun l hm=>by
  obtain⟨f,hf,rfl⟩:=Qp.1 hm;have hb:=zbS ((h f hf).bd (L:=1) (by omega) (Qd _) (Qd _));exact⟨by have h2:=zft (h f hf).wf (h f hf).lt;show(f.1.map eMn).length<=4;rw[Qm];omega,hb.2⟩) (by omega) MS
 rw[zlt]at ha;refine zcf ha fun h1=>X9 (ptX q) fun f hf=>?_
 have h2:=h1 (ZP f) (Qp.2 ⟨f,hf,rfl⟩)
 rwa[zbR (h f hf).wf]at h2
theorem zk2{α:Type}{p:α->Bool}{l:List α}{i:Nat}(h:i<l.length):(l.take (i+1)).all p=((l.take i).all p&&p l[i]):=by
 rw[Zd h,List.all_append];simp
theorem zxv(k:Nat)(l:LL):decide (okL k l)=(decide (IsL l)&&l.1.all fun m=>decide (m.1<(k:Int))):=by
 rw[waU,decide_eq_true_iff,wag,decide_eq_true_iff,wai];exact⟨fun h=>⟨h.1,fun m hm=>waA (h.2 m hm)⟩,fun h=>⟨h.1,fun m hm=>of_decide_eq_true (h.2 m hm)⟩⟩
def zdr(k:Nat)(ls:List LL):Bool:=ls.all fun l=>decide (okL k l)
theorem zoS{k:Nat}{ls:List LL}:zdr k ls=true↔∀ l∈ls,okL k l:=by unfold zdr;simp
theorem zsr(hD:ze6)(ls:List LL)(jl:ls.length<=maxLen)(kl:∀ l∈ls,zfD l)(n:Int)(n1:0<=n)(n2:n<256)(x:List (Bool×List Nat))(jx:x.length<=maxLen):Q9 prog 3 [.one (eL cL ls),tI .u8 n,tLI x] (tB true):=by
 have hk:=zph hD;obtain⟨k,hw,Oi⟩:∃ k:Nat,Int.tmod n 5=(k:Int)/\k<5:=⟨(n%5).toNat,by rw[wee n1];omega,by omega⟩
 have e1:IntKind.wrap .i64 (k:Int)=(k:Int):=Q6 (by omega) (by omega);have Xz:=zrC ls k jl kl;have jl2:ls.length<=9223372036854775807:=Qn jl (by decide);have jx2:x.length<=9223372036854775807:=Qn jx (by decide);by_cases c1:(∀ l∈ls,FL2 l)/\ls.length<=8/\(k:Int)<=4
 .have Xz:=zbV Xz c1
  by_cases c2:x.length<=8
  .have Lm:((8:Int)<(x.length:Int))=False:=Ql (by omega)
   obtain⟨hf,NR,_⟩:=c1;have hs:=zqm ls (k:=k) (by omega) NR hf kl;have XN:∃ rb:Bool,rb=zdr k ls:=⟨_,rfl⟩
   obtain⟨rb,Ln⟩:=XN;refine QJ QC call3 func3 rfl ntmps3 results3 (by simp) (by decide) ?_;simp only[go_sem,hw,e1];refine Q3 hk rfl ?_;simp only[go_sem,hw,e1];refine Q3 Xz rfl ?_;simp only[go_sem,Lm];refine QK (fun i:Nat=>stL 146 [(0,.one (.t (eL cL ls))),(2,.one (.t (eL cI x))),(7,litI .i64 k),(8,QO (zdr k (ls.take i))),(9,litI .i64 i)] []) (fun i=>i<=ls.length) (fun i=>ls.length-i) 0 ?_ (Qk _) ?_
   .rw[show zdr k (ls.take 0)=true from rfl]
    (refine Q7 rfl ?_ ?_ ?_ ?_<;>(try simp only[go_sem,QA])<;>(try simp))
   .intro i hi
    simp only[go_sem];refine QI (fun Yw=>?_) (fun YG=>?_)
    .have Yv:i<ls.length:=by omega
     have Y1:QM cL ls i=cL ls[i]:=Q8 Yv;have Gn:=kl _ (Qh Yv);have MT:=hf _ (Qh Yv);have XG:((i:Int)<(ls.length:Int))=True:=Qf (by omega);have Vb:((0:Int)<=(i:Int))=True:=Qf (by omega);have Yx:zdr k (ls.take (i+1))=(zdr k (ls.take i)&&decide (okL k ls[i])):=zk2 Yv;have o1:=zwT ls[i] (by have:=MT.1.1;omega) Gn.2.1 Gn.2.2;generalize ls[i]=l at *
     have To:=MT.1.1;rw[zxv,<-wdK]at Yx;generalize zdr k (ls.take i)=av at *
     cases av with
     |true =>
      obtain⟨b0,XN⟩:∃ b0,b0=decide (IsL l):=⟨_,rfl⟩
      rw[<-XN]at o1;have KF:zdr k (ls.take (i+1))=(b0&&l.1.all fun m=>decide (m.1<(k:Int))):=by rw[Yx,wbo,XN]
      simp only[go_sem,Y1,XG,Vb]
      (repeat(refine Qg (by omega) ?_))
      refine Q3 o1 rfl ?_;simp only[go_sem];refine QK (fun j:Nat=>stL 146 [(0,.one (.t (eL cL ls))),(2,.one (.t (eL cI x))),(7,litI .i64 k),(8,QO (b0&&(l.1.take j).all fun m=>decide (m.1<(k:Int)))),(9,litI .i64 i),(10,litI .i64 j)] []) (fun j=>j<=l.1.length) (fun j=>l.1.length-j) 0 ?_ (Qk _) ?_
      .rw[show(b0&&(l.1.take 0).all fun m=>decide (m.1<(k:Int)))=b0 by rw[wao];exact wcC b0]
       (refine Q7 rfl ?_ ?_ ?_ ?_<;>(try simp only[go_sem,QA])<;>(try simp))
      .intro j hj
       simp only[go_sem,Y1,XG,Vb]
       (repeat(refine Qg (by omega) ?_))
       refine QI (fun YS=>?_) (fun Wt=>?_)
       .have Y2:j<l.1.length:=by omega
        have Ue:QM cM l.1 j=cM l.1[j]:=Q8 Y2;have XY:((j:Int)<(l.1.length:Int))=True:=Qf (by omega);have VB:((0:Int)<=(j:Int))=True:=Qf (by omega);have Wa:(b0&&(l.1.take (j+1)).all fun m=>decide (m.1<(k:Int)))=((b0&&(l.1.take j).all fun m=>decide (m.1<(k:Int)))&&decide (l.1[j].1<(k:Int))):=by rw[zk2 Y2,wdK]
        generalize l.1[j]=m at *
        generalize (b0&&(l.1.take j).all fun m=>decide (m.1<(k:Int)))=bv at *
        cases bv with
        |true =>
         simp only[go_sem,Y1,XG,Vb,Ue,XY,VB]
         (repeat(refine Qg (by omega) ?_))
         refine⟨j+1,Y2,(by show l.1.length-(j+1)<l.1.length-j;omega),?_⟩
         (refine Q7 rfl ?_ ?_ ?_ ?_<;>(try simp only[go_sem,QA,Wa,wbo,Q6 (n:=(j:Int)+1) (by omega) (by omega)])<;>(try simp))
        |false =>
         simp only[go_sem];refine⟨j+1,Y2,(by show l.1.length-(j+1)<l.1.length-j;omega),?_⟩
         (refine Q7 rfl ?_ ?_ ?_ ?_<;>(try simp only[go_sem,QA,Wa,wcE,Q6 (n:=(j:Int)+1) (by omega) (by omega)])<;>(try simp))
       .obtain rfl:j=l.1.length:=by omega
        rw[Q1];simp only[go_sem];refine⟨i+1,Yv,(by show ls.length-(i+1)<ls.length-i;omega),?_⟩
        (refine Q7 rfl ?_ ?_ ?_ ?_<;>(try simp only[go_sem,QA,KF,Q6 (n:=(i:Int)+1) (by omega) (by omega)])<;>(try simp))
     |false =>
      obtain⟨b0,XN⟩:∃ b0,b0=false:=⟨_,rfl⟩
      have KF:zdr k (ls.take (i+1))=(b0&&l.1.all fun m=>decide (m.1<(k:Int))):=by rw[Yx,wcE,XN]
      simp only[go_sem];refine QK (fun j:Nat=>stL 146 [(0,.one (.t (eL cL ls))),(2,.one (.t (eL cI x))),(7,litI .i64 k),(8,QO (b0&&(l.1.take j).all fun m=>decide (m.1<(k:Int)))),(9,litI .i64 i),(10,litI .i64 j)] []) (fun j=>j<=l.1.length) (fun j=>l.1.length-j) 0 ?_ (Qk _) ?_
      .rw[show(b0&&(l.1.take 0).all fun m=>decide (m.1<(k:Int)))=b0 by rw[wao];exact wcC b0]
       (refine Q7 rfl ?_ ?_ ?_ ?_<;>(try simp only[go_sem,QA,XN])<;>(try simp))
      .intro j hj
       simp only[go_sem,Y1,XG,Vb]
       (repeat(refine Qg (by omega) ?_))
       refine QI (fun YS=>?_) (fun Wt=>?_)
       .have Y2:j<l.1.length:=by omega
        have Ue:QM cM l.1 j=cM l.1[j]:=Q8 Y2;have XY:((j:Int)<(l.1.length:Int))=True:=Qf (by omega);have VB:((0:Int)<=(j:Int))=True:=Qf (by omega);have Wa:(b0&&(l.1.take (j+1)).all fun m=>decide (m.1<(k:Int)))=((b0&&(l.1.take j).all fun m=>decide (m.1<(k:Int)))&&decide (l.1[j].1<(k:Int))):=by rw[zk2 Y2,wdK]
        generalize l.1[j]=m at *
        generalize (b0&&(l.1.take j).all fun m=>decide (m.1<(k:Int)))=bv at *
        cases bv with
        |true =>
         simp only[go_sem,Y1,XG,Vb,Ue,XY,VB]
         (repeat(refine Qg (by omega) ?_))
         refine⟨j+1,Y2,(by show l.1.length-(j+1)<l.1.length-j;omega),?_⟩
         (refine Q7 rfl ?_ ?_ ?_ ?_<;>(try simp only[go_sem,QA,Wa,wbo,Q6 (n:=(j:Int)+1) (by omega) (by omega)])<;>(try simp))
        |false =>
         simp only[go_sem];refine⟨j+1,Y2,(by show l.1.length-(j+1)<l.1.length-j;omega),?_⟩
         (refine Q7 rfl ?_ ?_ ?_ ?_<;>(try simp only[go_sem,QA,Wa,wcE,Q6 (n:=(j:Int)+1) (by omega) (by omega)])<;>(try simp))
       .obtain rfl:j=l.1.length:=by omega
        rw[Q1];simp only[go_sem];refine⟨i+1,Yv,(by show ls.length-(i+1)<ls.length-i;omega),?_⟩
        (refine Q7 rfl ?_ ?_ ?_ ?_<;>(try simp only[go_sem,QA,KF,Q6 (n:=(i:Int)+1) (by omega) (by omega)])<;>(try simp))
    .obtain rfl:i=ls.length:=by omega
     rw[Q1,<-Ln];rcases hs with⟨X9,hs⟩|⟨VV,YW,XO,o,Vo,hs⟩
     .obtain rfl:rb=false:=by rw[Ln];exact Bool.eq_false_iff.2 fun h=>X9 (zoS.1 h)
      simp only[go_sem];refine Q3 hs rfl ?_;simp only[go_sem]
     .obtain rfl:rb=true:=by rw[Ln];exact zoS.2 VV
      cases o with
      |some p =>
       have hs:Q9 prog 13 [.one (eL cL ls),tI .i64 k] (.tup [.one (eL cJ (fnG k p)),tB true,tI .i64 0]):=hs;have oa:=zbV (allX (ls.map lv) (n:=k) (by omega) (by rw[Qm];omega) XO p Vo.2) Vo.1;rw[<-YW]at oa;have Y0:(fnG k p).length=k:=Zc;simp only[go_sem];refine Q3 hs rfl ?_;simp only[go_sem,Y0];refine QK (fun v:Nat=>stL 146 [(0,.one (.t (eL cL ls))),(7,litI .i64 k),(11,.one (.t (eL cJ (fnG k p)))),(14,litI .i64 v)] []) (fun v=>v<=k) (fun v=>k-v) 0 ?_ (Qk _) ?_
       ·(refine Q7 rfl ?_ ?_ ?_ ?_<;>(try simp only[go_sem,QA])<;>(try simp))
       .intro v hv
        simp only[go_sem];refine QI (fun Yw=>?_) (fun YG=>?_)
        .have Yv:v<k:=by omega
         have Ue:QM cJ (fnG k p) v=cJ (p v):=zdf Yv;have Va:((v:Int)<(k:Int))=True:=Qf (by omega);have Vz:((0:Int)<=(v:Int))=True:=Qf (by omega);have lp:=Vo.2 v Yv;have oi:Q9 prog 14 [eI (p v)] (tB true):=by
          have:=zjY (decide (p v<0)) (dig (p v).natAbs) (by show lN (p v)<_;omega)
          rwa[waA (zhw (p v))]at this
         generalize p v=z at *
         simp only[go_sem,Ue,Va,Vz,Y0]
         (repeat(refine Qg (by omega) ?_))
         refine Q3 oi rfl ?_;simp only[go_sem];refine⟨v+1,Yv,(by show k-(v+1)<k-v;omega),?_⟩
         (refine Q7 rfl ?_ ?_ ?_ ?_<;>(try simp only[go_sem,QA,Q6 (n:=(v:Int)+1) (by omega) (by omega)])<;>(try simp))
        .simp only[go_sem]
         refine Q3 oa rfl ?_;simp only[go_sem]
      |none =>
       have hs:Q9 prog 13 [.one (eL cL ls),tI .i64 k] (.tup [.one (.seq (some true) []),tB false,tI .i64 0]):=hs;have Vd:((0:Int)<=(k:Int))=True:=Qf (by omega);simp only[go_sem];refine Q3 hs rfl ?_;simp only[go_sem,Vd]
       (repeat(refine Qg (by omega) ?_))
       refine QK (fun v:Nat=>stL 146 [(0,.one (.t (eL cL ls))),(2,.one (.t (eL cI x))),(7,litI .i64 k),(11,.one (.t (.seq (some true) []))),(15,.one (.vec 111 2 0 k)),(16,litI .i64 v)] [(111,Q5 cI (fnG k fun u=>if u<v then x.getD u (false,[])else(false,[])))]) (fun v=>v<=k/\v<=x.length/\∀ u,u<v->(x.getD u (false,[])).2.length<=4) (fun v=>k-v) 0 ?_ ⟨Qk _,Qk _,fun u hu=>Qo hu (waO _)⟩ ?_
       .refine GStep.trans (zar 111 (cs:=Zg k [Abs.C.t (Abs.T.lit (Value.bool false)),Abs.C.t (Abs.T.seq (some true) [])]) (by simp only[go_sem]<;>rfl) (zs1 k▸zeZ k)) ?_
        rw[show(fun u=>if u<0 then x.getD u (false,[])else((false,[]):Bool×List Nat))=fun _=>(false,[])from funext fun u=>Qb (by omega)]
        (refine Q7 rfl ?_ ?_ ?_ ?_<;>(try simp only[go_sem,QA,QH])<;>(try simp))
       .rintro v ⟨hv,Kw,MU⟩
        obtain⟨g,hg⟩:∃ g:Nat->RI,g=fun u=>if u<v then x.getD u (false,[])else(false,[]):=⟨_,rfl⟩
        rw[<-hg];have MV:∀ z∈fnG k g,z.2.length<=4:=fun z hz=>by
         obtain⟨u,hu,rfl⟩:=zeq hz;rw[hg];show(if u<v then x.getD u (false,[])else((false,[]):RI)).2.length<=4;split
         .exact MU u ‹_›
         .exact Qk _
        have NL:((0:Int)<=(v:Int))=True:=Qf (by omega);by_cases a:v<k
        .have a':((v:Int)<(k:Int))=True:=Qf (by omega)
         by_cases b:v<x.length
         .have b':((v:Int)<(x.length:Int))=True:=Qf (by omega)
          have Ue:QM cI x v=[.lit (.bool x[v].1),eN x[v].2]:=Q8 b;have UO:(∀ z∈x,(cI z).length=2)=True:=Qf fun z _=>rfl
          have U0:x.getD v (false,[])=x[v]:=by rw[waC,waa b];rfl
          have VM:(Q5 cI (fnG k g)).length=k*2:=zbm fun _=>rfl
          have sd:=zyK a (g:=g) (q:=x[v]);have UF:(fun u=>if u<v+1 then x.getD u (false,[])else((false,[]):RI))=fun u=>if u=v then x[v]else g u:=funext fun u=>by
           rw[hg];by_cases c:u=v
           .rw[Qc (by omega),Qc c,c,U0]
           .rw[Qb c]
            by_cases d:u<v
            .rw[Qc (by omega)];exact(Qc d).symm
            .rw[Qb (by omega)];exact(Qb d).symm
          by_cases c:x[v].2.length<=4
          .have Lo:∀ u,u<v+1->(x.getD u (false,[])).2.length<=4:=fun u hu=>by
            by_cases e:u=v
            .rw[e,U0];exact c
            .exact MU u (by omega)
           have c':((4:Int)<(x[v].2.length:Int))=False:=Ql (by omega);generalize x[v]=y at *
           simp only[go_sem,a',b',Ue,UO,NL,c']
           (repeat(refine Qg (by omega) ?_))
           (try simp only[go_sem,a',b',Ue,UO,NL,c',VM])
           (repeat(refine Qg (by omega) ?_))
           refine⟨v+1,⟨a,b,Lo⟩,(by show k-(v+1)<k-v;omega),?_⟩
           (refine Q7 rfl ?_ ?_ ?_ ?_<;>(try simp only[go_sem,QA,QH,sd,UF,Q6 (n:=(v:Int)+1) (by omega) (by omega)])<;>(try simp))
          .have c':((4:Int)<(x[v].2.length:Int))=True:=Qf (by omega)
           generalize x[v]=y at *
           simp only[go_sem,a',b',Ue,UO,NL,c']
           (repeat(refine Qg (by omega) ?_))
         .have b':((v:Int)<(x.length:Int))=False:=Ql (by omega)
          have hA:=zoR (ls.map lv) (n:=k) (by omega) (by rw[Qm];omega) XO (fnG k g) (by rw[Zc];omega) MV Vo;rw[<-YW]at hA;have VQ:=Yl (f:=cI) (sz:=2) (xs:=fnG k g) (fun _=>rfl);rw[Zc]at VQ;generalize fnG k g=Q at *
          simp only[go_sem,a',b'];refine zbM 111 2 k rfl hA (by simp only[go_sem]<;>rfl) VQ ?_ ?_
          .simp only[go_sem]<;>rfl
          .simp only[go_sem]
        .have a':((v:Int)<(k:Int))=False:=Ql (by omega)
         have hA:=zoR (ls.map lv) (n:=k) (by omega) (by rw[Qm];omega) XO (fnG k g) (by rw[Zc];omega) MV Vo;rw[<-YW]at hA;have VQ:=Yl (f:=cI) (sz:=2) (xs:=fnG k g) (fun _=>rfl);rw[Zc]at VQ;generalize fnG k g=Q at *
         simp only[go_sem,a'];refine zbM 111 2 k rfl hA (by simp only[go_sem]<;>rfl) VQ ?_ ?_
         .simp only[go_sem]<;>rfl
         .simp only[go_sem]
  .have Lm:((8:Int)<(x.length:Int))=True:=Qf (by omega)
   refine QJ QC call3 func3 rfl ntmps3 results3 (by simp) (by decide) ?_;simp only[go_sem,hw,e1];refine Q3 hk rfl ?_;simp only[go_sem,hw,e1];refine Q3 Xz rfl ?_;simp only[go_sem,Lm]
 .have Xz:=zcf Xz c1
  refine QJ QC call3 func3 rfl ntmps3 results3 (by simp) (by decide) ?_;simp only[go_sem,hw,e1];refine Q3 hk rfl ?_;simp only[go_sem,hw,e1];refine Q3 Xz rfl ?_;simp only[go_sem]
end Go.Proofs.YtlgjjcmljmjenaaGreat
namespace Go.Proofs.YtlgjjcmljmjenaaGreat
open Go Go.Abs Go.Proofs.Tryz Go.ChangeShapes Go.WideShapes Go.ChangeAt Go.RowKit
theorem zrI(os:Os)(started:os.Started)(H:Type)(enc:TypeId×Value->H) :
  ReturnsInHanded {} Tryz.checked os 3 .any (Rows.liaSolvesSpec.pre6 enc prog Tryz.f3 Rows.liaSolvesRow.domain false) (Rows.liaSolvesSpec.post enc prog Tryz.f3 false true false false):=by
 refine returnsInHanded_of_change (C:=Tryz.checked) Tryz.ownK started (by kernel_rfl) func3
  (ChangeSpec.witness6 (enc:=enc) (C:=Tryz.checked) false ⟨#[],#[.slice none 0 0,.int .u8 0,.slice none 0 0],[]⟩ 8 (by kernel_rfl) (by kernel_rfl) (by kernel_rfl) (by kernel_rfl)) ?_
 intro W base args ds gs before YO hW _ _;refine zmz (S:=zgv) (tb:=4) zoz Tryz.laidOut (by intro t ht;revert t;decide +kernel) rfl Tryz.underlying4 rfl (fun ds h=>?_) (fun tvs h=>?_) YO hW
 .match ds,h with
  |[d0,d1,d2],_=>rfl
 .obtain⟨x0,_,rfl,h0,h⟩:=zg1 h
  obtain⟨x1,_,rfl,h1,h⟩:=zg1 h;obtain⟨x2,_,rfl,h2,h⟩:=zg1 h;obtain rfl:=zoy h;obtain⟨l0,rfl,j0,k0⟩:=znn h0;obtain⟨n1,rfl,k1⟩:=zpP Tryz.underlying5 h1;have k1:=zru k1;obtain⟨l2,rfl,j2⟩:=zvv h2;exact zsr zpq l0 j0 k0 n1 k1.1 k1.2 l2 j2
theorem liaSolves_holds:Rows.LiaSolvesSaid :=
 OpenClaim.holds_of_wide 3 Tryz.f3 rfl rfl rfl rfl rfl rfl rfl ⟨rfl,rfl,rfl,rfl,rfl⟩ rfl rfl rfl rfl rfl (by kernel_rfl) func3 (by kernel_rfl)
  (of_decide_eq_true (by kernel_rfl)) (by unfold Func.isWrapper;first|(rw[Qc (by decide +kernel)];kernel_rfl)|(rw[Qb (by decide +kernel)];exact⟨rfl,rfl⟩))
  (fun os started H enc _=>zrI os started H enc)
end Go.Proofs.YtlgjjcmljmjenaaGreat
