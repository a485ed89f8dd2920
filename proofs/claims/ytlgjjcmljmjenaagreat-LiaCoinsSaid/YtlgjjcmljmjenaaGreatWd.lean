/- At every input the call answers true and leaves its arguments as they were; no conditions. -/
import Derived.Test.YtlgjjcmljmjenaaGreatWc
import Derived.Test.YtlgjjcmljmjenaaGreatDc
import Derived.Test.YtlgjjcmljmjenaaGreatHc
set_option linter.unusedSimpArgs false
set_option linter.unusedVariables false
set_option maxRecDepth 100000
set_option maxHeartbeats 32000000
namespace Go.Proofs.YtlgjjcmljmjenaaGreat
open Go Go.Abs Go.Proofs.Tryz
def Z7:Nat->Nat
 |0=>1
 |j+1=>70*Z7 j+230
theorem zf6{i:Nat}:∀ {j:Nat},i<=j->Z7 i<=Z7 j
 |0,h=>by
  obtain rfl:i=0:=by omega
  exact Qd _
 |j+1,h=>by
  by_cases e:i=j+1
  .rw[e];exact Qd _
  .have:=zf6 (i:=i) (j:=j) (by omega)
   show Z7 i<=70*Z7 j+230;omega
theorem zmf:Z7 3=1486330/\Z7 4=104043330:=by decide
theorem zxm:∀ j,j<=3->∀ k,k<=4->j+k<=4->1<=k ->
  (eeG (30*(Z7 j+3)) k/29+1<=500000000/\(30*((30*(Z7 j+3)+(eeG (30*(Z7 j+3)) k+4)*(k+1))/29+3)+(eeG (30*(Z7 j+3)) k+13)*(k+1)+13)/29+1<=500000000 /\
   (eeG (30*(Z7 j+3)) k/29+1)+((30*(Z7 j+3)+(eeG (30*(Z7 j+3)) k+4)*(k+1))/29+3)+(Z7 j+3)+20<=Z7 (j+k)):=by decide +kernel
def zbf(r:Nat):Nat:=400000000+r*110000000
theorem zqZ(r:Nat):zbf (r+1)=zbf r+110000000:=by unfold zbf;omega
theorem zt7{a b:Nat}(h:a<=b):zbf a<=zbf b:=by unfold zbf;omega
theorem zbV.mono{ls:List Fm}{n B B':Nat}{o:Option (Nat->Int)}(h:zbV ls n B o)(hB:B<=B'):zbV ls n B' o:=by
 cases o with
 |none=>exact h
 |some p=>exact⟨h.1,fun v hv=>Qo (h.2 v hv) hB⟩
theorem zbV.iff{ls ls':List Fm}{n B:Nat}{o:Option (Nat->Int)}(h:zbV ls n B o)(e:∀ p,Sat ls p↔Sat ls' p):zbV ls' n B o:=by
 cases o with
 |none=>exact fun p hp=>h p ((e p).2 hp)
 |some p=>exact⟨(e p).1 h.1,h.2⟩
theorem zbq.mono{ls:List Fm}{n B B':Nat}(h:zbq ls n B)(hB:B<=B'):zbq ls n B':=by
 obtain⟨o,h1,h2⟩:=h;exact⟨o,h1.mono hB,h2⟩
def PR(r j:Nat):Prop:=∀ (ls:List Fm) (n:Nat) (GG:Nat->Nat->Int),n<=4->(∀ f∈ls,Fv n (Z7 j) (Z7 j) f)->ls.length<=zal j->(∀ f∈ls,Ys r GG f)->zbq ls n (zbf r)
theorem Fv.neg1{n C K:Nat}{f:Fm}(h:Fv n C K f):Fv n C K (scF f (-1)) where
 wf:=zbE h.wf _
 lt:=fun m hm=>by
  have e:scF f (-1)=(scM (-1) f.1,f.2 * -1):=Qb (by decide);rw[e]at hm;obtain⟨x,hx,rfl⟩:=Qp.1 hm;exact h.lt x hx
 co:=fun m hm=>by
  have e:scF f (-1)=(scM (-1) f.1,f.2 * -1):=Qb (by decide);rw[e]at hm;obtain⟨x,hx,rfl⟩:=Qp.1 hm;have h1:=Zw x.2;have h2:x.2 * -1 = -x.2:=by omega
  show lN (x.2 * -1)<=C;rw[h2,h1];exact h.co x hx
 ko:=by
  have e:scF f (-1)=(scM (-1) f.1,f.2 * -1):=Qb (by decide);rw[e];have h2:f.2 * -1 = -f.2:=by omega
  show lN (f.2 * -1)<=K;rw[h2,Zw];exact h.ko
theorem zo2{ls:List Fm}{n C K B:Nat}(hn:n<=4)(hC:max C K<=500000000)(hl:ls.length<100000000)(h:∀ f∈ls,Fv n C K f)(X8:¬(okN ls/\okE (Zu ls))):zbq ls n B:=by
 have V1:=ziL ls n (n:=n) (by omega) hC hl h;have e:zfK ls n = .tup [.agg [.junk,.junk,.junk],tB false]:=Qb X8;rw[e]at V1;exact⟨none,fun p hp=>X8 ⟨zqa hp,zxr ((zi9 (fun a ha=>(h a ha).wf) (zqa hp) p).2 hp)⟩,zsY ls n V1⟩
theorem znq{ls:List Fm}{n C K B:Nat}(hn:n<=1000)(hC:max C K<=500000000)(hl:ls.length<100000000)(h:∀ f∈ls,Fv n C K f)(h1:okN ls)(h2:okE (Zu ls))(h0:Zu ls=[]):zbq ls n B:=by
 have V1:=ziL ls n (n:=n) (by omega) hC hl h;rw[ziK h1 h2,h0]at V1;refine⟨some fun _=>0,⟨(zi9 (fun a ha=>(h a ha).wf) h1 _).1 ?_,fun v hv=>?_⟩,zr5 ls hn V1⟩
 .rw[h0];exact Sat.nil
 .rw[ZG];omega
theorem znr{r j:Nat}(hr:1<=r)(El:r+j<=4)(IH:∀ r' j',r'<r->r'+j'<=4->PR r' j'){ls:List Fm}{n:Nat}{GG:Nat->Nat->Int}(hn:n<=4)(h:∀ f∈ls,Fv n (Z7 j+2) (Z7 j+2) f)(hl:ls.length<=zal j+2)(hG:∀ f∈ls,Ys r GG f)
  (h1:okN ls) (h2:okE (Zu ls)) (K5:evI (Zu ls) (Zu ls).length≠[]):zbq ls n (zbf r):=by
 have hw:∀ a∈ls,WF a:=fun a ha=>(h a ha).wf
 have Oc:=zf6 (i:=j) (j:=3) (by omega);have Rw:=zeZ (i:=j) (j:=3) (by omega);have hq:=zmf;have Od:=zjK;have V1:=ziL ls n (n:=n) (C:=Z7 j+2) (K:=Z7 j+2) (by omega) (by omega) (by omega) h;rw[ziK h1 h2]at V1;have XG:=zpQ h;have KD:=znV ls;have NY:=zoJ hw hG;have Ri:=zpP ls;have Ux:=zi9 hw h1;obtain⟨T,hT⟩:∃ T,T=Zu ls:=⟨_,rfl⟩
 rw[<-hT]at V1 XG KD NY Ri Ux K5 h2;obtain⟨ev,NZ⟩:∃ ev,ev=evI T T.length:=⟨_,rfl⟩
 have hm:∀ e∈ev,e∈T:=fun e he=>(zlO (Qd _) e (NZ▸he)).1
 have Y5:=zlY Ri T.length;rw[<-NZ]at V1 K5 Y5;have WH:T≠[]:=fun e=>by
  obtain⟨x,hx⟩:=wc8 _ K5;have:=hm x hx;rw[e]at this;cases this
 obtain⟨k,hk⟩:∃ k,k=(QG (atW (evA n ev)) n ev.length ev.length).2:=⟨_,rfl⟩
 obtain⟨r0,rfl⟩:∃ r0,r=r0+1:=⟨r-1,by omega⟩
 have R0:=zxm j (by omega) k;obtain⟨o,⟨VG,XS,Em⟩,Va,Jl⟩:=zvn T ev (L:=Z7 j+3) (B:=zbf r0) (r:=r0+1) (GG:=GG) hn (by omega) (by omega) WH (by omega) K5 (fun f hf=>(XG f hf).1) hm (fun e he=>(XG e (hm e he)).2)
  (fun p hp e he=>zt9 hp (Qd _) (NZ▸he)) NY hk rfl rfl rfl rfl
  (fun a b c=>⟨(R0 (by omega) (by omega) a).1,(R0 (by omega) (by omega) a).2.1⟩) (by unfold zbf;omega) fun NX r' GG' a b c d e f=>by
   have Gj:=(R0 (by omega) (by omega) a).2.2;refine(IH r' (j+k) (by omega) (by omega) NX (n-k) GG' (by omega) (fun g hg=>(e g hg).mono (Qd _) Gj Gj) ?_ f).mono (zt7 (by omega));have:=zvA j;have:=zeZ (i:=j+1) (j:=j+k) (by omega);omega
 have Gj:=(R0 (by omega) (by omega) VG).2.2;have h4:=zf6 (i:=j+k) (j:=4) (by omega);exact⟨o,(Va.mono (by rw[zqZ];omega)).iff Ux,zr6 ls T ev hn WH (by omega) (by omega) K5 V1 Jl⟩
theorem zt8{r j:Nat}(hr:1<=r)(El:r+j<=4)(IH:∀ r' j',r'<r->r'+j'<=4->PR r' j'){T:List Fm}{n v:Nat}{GG:Nat->Nat->Int}(hn:n<=4)(h:∀ f∈T,Fv n (Z7 j+1) (Z7 j+1) f)(hl:T.length<=zal j)(hG:∀ f∈T,Ys r GG f)
  {l:Fm} (KW:l∈QU T v) {i:Int} (Vz:0<=i) (hi:i<=zcm v (zai v (QR T v)) l):zbq (zbI T l i) n (zbf r):=by
 have Oc:=zf6 (i:=j) (j:=3) (by omega);have Rw:=zeZ (i:=j) (j:=3) (by omega);have hq:=zmf;have Od:=zjK;obtain⟨Oe,R6⟩:=zbw.1 KW;have Gl:=h l Oe;have JN:=zpL (v:=v) (m:=zai v (QR T v)) (l:=l) (zir v (QR T v)).1 R6;have Su:lN i<=Z7 j+1:=Qo (zeI (by omega)) (Gl.lco v);obtain⟨f,hf⟩:∃ f,f=QN l (Zd i):=⟨_,rfl⟩
 have Rp:Fv n (Z7 j+2) (Z7 j+2) f:=by rw[hf];exact Gl.add (Fv.const (n:=n) (C:=0) Su) (by omega) (by omega)
 have VP:coM f.1 v=coM l.1 v:=by rw[hf,zgx Gl.wf (zel i)];show _+coM [] v=_;rw[coM];omega
 have Sv:f.1≠[]:=fun e=>by
  rw[e]at VP;have:coM [] v=0:=rfl;omega
 have Dv:Ys r GG f:=by rw[hf];exact zvh Gl.wf (hG l Oe)
 have hS:zbI T l i=T++[f,scF f (-1)]:=by rw[hf];rfl
 have Ns:∀ g∈zbI T l i,Fv n (Z7 j+2) (Z7 j+2) g:=fun g hg=>by
  rw[hS]at hg;rcases wao.1 hg with hg|hg
  .exact(h g hg).mono (Qd _) (by omega) (by omega)
  .rcases wad.1 hg with rfl|hg
   .exact Rp
   .obtain rfl:=Qr.1 hg;exact Rp.neg1
 have GF:∀ g∈zbI T l i,Ys r GG g:=fun g hg=>by
  rw[hS]at hg;rcases wao.1 hg with hg|hg
  .exact hG g hg
  .rcases wad.1 hg with rfl|hg
   .exact Dv
   .obtain rfl:=Qr.1 hg;exact zwP Dv
 have L1:(zbI T l i).length=T.length+2:=by rw[hS,Qj];rfl
 by_cases c:okN (zbI T l i)/\okE (Zu (zbI T l i))
 .have XK:f∈zbI T l i:=by rw[hS];exact wbJ _ wam
  have Nn:scF f (-1)∈zbI T l i:=by rw[hS];exact wbJ _ (wal _ wam)
  exact znr hr El IH hn Ns (by omega) GF c.1 c.2 (ztN (fun a ha=>(Ns a ha).wf) XK Nn Sv c.2)
 .exact zo2 hn (by omega) (by omega) Ns c
theorem znS:∀ r j,r+j<=4->PR r j:=by
 intro r
 induction r using Nat.strongRecOn with
 |ind r IH =>
  intro j El ls n GG hn h hl hG;have Tn:=zf6 (i:=j) (j:=4) (by omega);have To:=zeZ (i:=j) (j:=4) (by omega);have hq:=zmf;have Od:=zjK;have hw:∀ a∈ls,WF a:=fun a ha=>(h a ha).wf
  by_cases c:okN ls/\okE (Zu ls)
  .obtain⟨h1,h2⟩:=c
   by_cases WH:Zu ls=[]
   .exact znq (by omega) (by omega) (by omega) h h1 h2 WH
   .have XG:=zpQ h
    have KD:=znV ls;have NY:=zoJ hw hG;have hr:1<=r:=by
     refine waF fun hc=>?_
     obtain rfl:r=0:=by omega
     obtain⟨x,hx⟩:=wc8 _ WH;exact(XG x hx).2 (Ys.zero (XG x hx).1.wf (NY x hx))
    have Oc:=zf6 (i:=j) (j:=3) (by omega);have Rw:=zeZ (i:=j) (j:=3) (by omega);have IH2:∀ r' j',r'<r->r'+j'<=4->PR r' j':=fun r' j' a b=>IH r' a j' b
    by_cases K5:evI (Zu ls) (Zu ls).length=[]
    .have V1:=ziL ls n (n:=n) (C:=Z7 j) (K:=Z7 j) (by omega) (by omega) (by omega) h
     rw[ziK h1 h2,K5]at V1;have Ux:=zi9 hw h1;obtain⟨T,hT⟩:∃ T,T=Zu ls:=⟨_,rfl⟩
     rw[<-hT]at V1 XG KD NY Ux WH;have Na:∀ f∈T,Fv n (Z7 j+1) (Z7 j+1) f:=fun f hf=>(XG f hf).1
     have Sw:zgN T n 400000000 40:=ztR (n:=n) (C:=Z7 j+8) hn (by omega) (by omega) 40 (Qd _) T (Z7 j+1) WH (by omega) (by omega) fun f hf=>(Na f hf).mono (Qd _) (by omega) (Qd _)
     have Wn:=zit T n;cases VL:zbd T n with
     |none =>
      rw[VL]at Wn;obtain⟨x,hx⟩:=wc8 _ WH;refine((XG x hx).2 (zoH (XG x hx).1.wf fun v=>?_)).elim;by_cases hv:v<n
      .have h3:=Wn v hv
       have a1:QU T v=[]:=wew (by omega);have a2:QR T v=[]:=wew (by omega);by_cases c1:coM x.1 v<0
       .have:=zbw.2 ⟨hx,c1⟩
        rw[a1]at this;cases this
       .by_cases c2:0<coM x.1 v
        .have:=zcb.2 ⟨hx,c2⟩
         rw[a2]at this;cases this
        .omega
      .exact(XG x hx).1.co_ge (by omega)
     |some v =>
      rw[VL]at Wn;have Wn:v<n/\0<(QU T v).length+(QR T v).length:=Wn;have Wq:∃ f∈T,coM f.1 v≠0:=by
       by_cases a1:QU T v=[]
       .have a2:QR T v≠[]:=fun e=>by rw[a1,e]at Wn;exact Qn Wn.2 (by simp)
        obtain⟨x,hx⟩:=wc8 _ a2;have:=zcb.1 hx;exact⟨x,this.1,by omega⟩
       .obtain⟨x,hx⟩:=wc8 _ a1
        have:=zbw.1 hx;exact⟨x,this.1,by omega⟩
      obtain⟨r0,G',UA,YR⟩:=zwO (fun f hf=>(Na f hf).wf) NY Wq;subst UA;have hs:∀ d,zbq (shV d v (QU T v) (QR T v) (ZH T v)) n (zbf r0):=fun d=>by
       refine IH2 r0 (j+1) (by omega) (by omega) _ n G' hn (fun f hf=>?_) ?_ (YR d)
       .have Tp:Z7 (j+1)=70*Z7 j+230:=rfl
        rcases zgm.1 hf with hf|⟨l,VZ,g,Ws,rfl⟩
        .exact(Na f (zf3.1 hf).1).mono (Qd _) (by omega) (by omega)
        .exact(zyf (Na l (zbw.1 VZ).1) (Na g (zcb.1 Ws).1)).mono (Qd _) (by omega) (by omega)
       .rw[zpI]
        have h3:=zkF T v;exact zsV (by omega)
      have Y5:=zr2 T [] (n:=n) (C:=Z7 j+1) (K:=Z7 j+1) (B:=zbf r0) (B2:=zbf (r0+1)) (v:=v) hn (by omega) (by unfold zbf;omega) (by rw[zqZ];omega) (by omega) Na VL (hs _) (hs _)
       (zr3 T [] (n:=n) (C:=Z7 j+1) (K:=Z7 j+1) hn (by omega) (by omega) WH Wn.1 Na fun l VZ i Vz Ul=>zt8 hr El IH2 hn Na (by omega) NY VZ Vz Ul)
      obtain⟨o,Va,Jl⟩:=zsZ ls T (B:=400000000) hn WH (by omega) V1 Sw Y5 (by unfold zbf;omega);exact⟨o,Va.iff Ux,Jl⟩
    .exact znr hr El IH2 hn (fun f hf=>(h f hf).mono (Qd _) (by omega) (by omega)) (by omega) hG h1 h2 K5
  .exact zo2 hn (by omega) (by omega) h c
theorem zo3(ls:List Fm)(n:Nat)(hn:n<=4)(h:∀ f∈ls,Fv n 1 1 f)(hl:ls.length<=8):zbq ls n 840000000 :=
 (znS n 0 (by omega) ls n _ hn h hl fun f hf=>zoI (h f hf)).mono (by unfold zbf;omega)
theorem Q7.ne1{P:Program}{f:FuncId}{xs:List (List Go.Abs.T)}{args:List TV}{r:TV}(hne:xs≠[])(h:Q7 P f (.one (.seq (some false) xs)::args) r):Q7 P f (.one (.seq none xs)::args) r:=by
 refine⟨h.1,fun ok w vs YB hv=>h.2 ok w vs YB ⟨by rw[hv.1];simp,fun i hi Y6=>?_⟩⟩;have h2:=hv.2 i (by simpa using hi) Y6;cases i with
 |zero =>
  simp only[wat,wcI]at h2 ⊢;generalize vs[0]=v at h2;cases h2 with
  |one h2 =>
   cases h2 with
   |t h2=>exact .one (.t (h2.ne hne))
 |succ i=>simpa using h2
def zdh:Prop:=∀ (xs:List Nat) (i:Nat),i<xs.length->Ze prog 64 [.one (.vec PIN 1 0 xs.length),litI .i64 i,litI .i64 ((i:Int)+1)] (Yv PIN (Q5 cI1 xs)) (.one (.vec PIN 1 0 (xs.length-1))) (Yv PIN (Q5 cI1 (xs.eraseIdx i)))
theorem zti(xs:List Nat)(hl:xs.length<1000000000):zgK prog 65 [.one (.seq (some false) (xs.map cI1))] 1 xs.length (Q5 cI1 xs):=by
 refine zii (b:=5) QB call65 func65 rfl ntmps65 results65 (by simp) (by decide) ?_ ?_
 .exact zfY
 simp only[go_sem];refine zko 5 1 rfl (Qd _) (by simp only[go_sem]<;>decide) (by simp only[go_sem]) (by decide) ?_;simp only[go_sem];refine zar (Qd _) (sz:=1) (bytes:=8) (by simp only[go_sem,QW]<;>decide) Ya [] xs (by simp only[go_sem]<;>rfl) rfl (by simp only[go_sem]<;>rfl) (by simp only[go_sem]<;>rfl) rfl (by simp;omega) (by decide) ?_;simp only[go_sem];exact⟨[],by simp⟩
theorem zsH(hD:zdh)(xs:List Nat)(i:Nat)(hi:i<xs.length)(hl:xs.length<1000000):Q7 prog 36 [.one (eL cI1 xs),tI .i64 i] (.one (eL cI1 (xs.eraseIdx i))):=by
 have hne:xs≠[]:=fun e=>by rw[e]at hi;exact Qn hi (by simp)
 have XM:IntKind.wrap .i64 ((i:Int)+1)=(i:Int)+1:=Q4 (by omega) (by omega);have Xb:(xs.eraseIdx i).length=xs.length-1:=wcW hi;refine Q7.ne1 (by simpa using hne) ?_;refine QH QB call36 func36 rfl ntmps36 results36 (by simp) (by decide) ?_;simp only[go_sem];refine ze7 6 (.inr rfl) (zti xs (by omega)) (by first|rfl|(simp only[go_sem]<;>rfl)) (by simp only[go_sem]) (by decide) ?_;simp only[go_sem,XM];refine ze1 6 (.inr rfl) (hD xs i hi) (by simp only[go_sem]<;>rfl) (by simp only[go_sem,PIN]<;>rfl) zkO zfY zfY ?_;simp only[go_sem];exact zgi Ya (by simp only[go_sem]<;>rfl) (by omega)
def pkF(ls:List Fm)(c:List Nat):List Fm:=c.map fun i=>ls.getD i ([],0)
theorem zwo(ls:List Fm)(c:List Nat)(hc:∀ i∈c,i<ls.length)(hl:c.length<1000000):Q7 prog 37 [.one (eL cF ls),.one (eL cI1 c)] (.one (eL cF (pkF ls c))):=by
 refine QH QB call37 func37 rfl ntmps37 results37 (by simp) (by decide) ?_;simp only[go_sem];refine QJ (fun i:Nat=>stL 23 [(0,.one (.t (eL cF ls))),(5,zae 1000 3 (pkF ls (c.take i))),(8,.one (.t (eL cI1 c))),(9,litI .i64 c.length),(10,litI .i64 i)]
   (Zb 1000 cF (pkF ls (c.take i)))) (fun i=>i<=c.length) (fun i=>c.length-i) 0 ?_ (Qk _) ?_
 .rw[was,show pkF ls []=[]from rfl]
  (refine Q6 rfl ?_ ?_ ?_ ?_<;>(try simp only[go_sem])<;>(try simp))
 .intro i hi
  simp only[go_sem];refine QI (fun Y1=>?_) (fun YI=>?_)
  .have Yz:i<c.length:=by omega
   have Y5:QP cI1 c i=cI1 c[i]:=Q8 Yz;have hq:=hc _ (Qf Yz);have Y0:pkF ls (c.take (i+1))=pkF ls (c.take i)++[ls.getD c[i] ([],0)]:=by unfold pkF;rw[Zl Yz,waK];rfl
   have RK:(pkF ls (c.take i)).length<=1000000:=by unfold pkF;rw[Qm,waB];omega
   generalize c[i]=q at *
   have YQ:QP cF ls q=cF (ls.getD q ([],0)):=by rw[Q8 hq,waE,wab hq];rfl
   have Vs:((q:Int)<(ls.length:Int))=True:=Qh (by omega);have Fs:((0:Int)<=(q:Int))=True:=Qh (by omega);generalize ls.getD q ([],0)=f at *
   generalize pkF ls (c.take i)=acc at *
   simp only[go_sem,Y5,Y1]
   (repeat(refine Qg (by omega) ?_))
   simp only[go_sem,YQ]
   (repeat(refine Qg (by omega) ?_))
   refine ZF (sz:=3) (bytes:=56) (by simp only[go_sem,QW]<;>decide) Z9 acc [f] (b:=1000) (by simp only[go_sem]<;>rfl) (by simp only[go_sem]<;>rfl) (by simp only[go_sem]<;>rfl) rfl (by simp) (by simp only[Qe,Qi]at *;omega) (by decide) ?_;simp only[go_sem];refine⟨i+1,Yz,(by show c.length-(i+1)<c.length-i;omega),?_⟩
   (refine Q6 rfl ?_ ?_ ?_ ?_<;>(try simp only[go_sem,Y0,Q4 (n:=(i:Int)+1) (by omega) (by omega)])<;>(try simp))
  .obtain rfl:i=c.length:=by omega
   rw[waa];simp only[go_sem];exact zlP Z9 (by simp only[go_sem])
def xT(n:Nat):Option (Nat->Int)->TV
 |some p=>.one (eL cJ (fnG n p))
 |none=>.one (.seq (some true) [])
theorem zkA(ls:List Fm)(n:Nat){o:Option (Nat->Int)}(hw:Q7 prog 30 [.one (eL cF ls),tI .i64 n] (tI .i64 0))(h:SoC 31 [.agg (sS ls n)] n o) :
  Q7 prog 13 [.one (eL cF ls),tI .i64 n] (.tup [xT n o,tB o.isSome,tI .i64 0]):=by
 refine QH QB call13 func13 rfl ntmps13 results13 (by simp) (by decide) ?_;cases o with
 |none =>
  simp only[go_sem];refine Q2 hw rfl ?_;simp only[go_sem];refine zdL (.inr rfl) h rfl ?_;simp only[go_sem];exact zlz (.one .t) (.one .t) (.one .t)
 |some p =>
  simp only[go_sem];refine Q2 hw rfl ?_;simp only[go_sem];refine zdK 900000 (.inr rfl) h rfl (by simp only[go_sem]) (by decide) ?_;simp only[go_sem];exact zlz (zgi Yj (by simp only[go_sem]<;>rfl) Zj.symm) (.one .t) (.one .t)
theorem zg2(ls:List LL)(n e:Int)(he:e≠0)(hw:Q7 prog 30 [.one (eL cL ls),tI .i64 n] (tI .i64 e)) :
  Q7 prog 13 [.one (eL cL ls),tI .i64 n] (.tup [.one (.seq (some true) []),tB false,tI .i64 e]):=by
 have FT:(e=0)=False:=Ql he;refine QH QB call13 func13 rfl ntmps13 results13 (by simp) (by decide) ?_;simp only[go_sem];refine Q2 hw rfl ?_;simp only[go_sem,FT];exact zlz (.one .t) (.one .t) (.one .t)
theorem zod{q:Rat}(h:0<=q)(h2:¬0<q.num):q=0:=by
 have h3:0<=q.num:=wdW.2 h;exact wdr.1 (by omega)
theorem zdp.sub{ls:List Fm}{n C K:Nat}{g:List Rat}(h:zdp ls n g)(YY:∀ f∈ls,Fv n C K f){p:Nat->Int}(hp:∀ i,i<ls.length->0<(g.getD i 0).num->atF (ls.getD i ([],0)) p<=0):False:=by
 obtain⟨h1,h2,h3⟩:=h;have hg:∀ i,0<=g.getD i 0:=fun i=>by
  rw[waE];cases e:g[i]? with
  |none=>exact wds
  |some q=>exact h1 q (wcU e)
 obtain⟨ls',Nk⟩:∃ ls':List Fm,ls'=fnG ls.length fun i=>if 0<(g.getD i 0).num then ls.getD i ([],0)else([],0):=⟨_,rfl⟩
 have Y4:ls'.length=ls.length:=by rw[Nk,Zj]
 have UL:∀ i,i<ls.length->ls'.getD i ([],0)=if 0<(g.getD i 0).num then ls.getD i ([],0)else([],0):=fun i hi=>by
  have XV:i<ls'.length:=by omega
  rw[waE,wab XV];subst Nk;exact za4 _
 have hm:∀ f∈ls',∃ i,i<ls.length/\f=if 0<(g.getD i 0).num then ls.getD i ([],0)else([],0):=fun f hf=>by
  rw[Nk]at hf;obtain⟨i,hi,e⟩:=zfb hf;exact⟨i,hi,e⟩
 have hd:∀ i,i<ls.length->ls.getD i ([],0)∈ls:=fun i hi=>by
  rw[waE,wab hi];exact Qf hi
 have hN:zdp ls' n g:=by
  refine⟨h1,fun v hv=>?_,?_⟩
  .refine wcV ?_ (h2 v hv)
   rw[Y4];refine Yi fun i hi=>?_
   rw[UL i hi];by_cases c:0<(g.getD i 0).num
   .rw[Qc c]
   .rw[zod (hg i) c,wbK,wbK]
  .rw[Y4]
   have e:smQ (fun i=>g.getD i 0*((ls'.getD i ([],0)).2:Rat)) ls.length=smQ (fun i=>g.getD i 0*((ls.getD i ([],0)).2:Rat)) ls.length:=Yi fun i hi=>by
    rw[UL i hi];by_cases c:0<(g.getD i 0).num
    .rw[Qc c]
    .rw[zod (hg i) c,wbK,wbK]
   rw[e];exact h3
 refine hN.sat (C:=C) (K:=K) (fun f hf=>?_) (p:=p) fun f hf=>?_
 .obtain⟨i,hi,rfl⟩:=hm f hf
  split
  .exact YY _ (hd i hi)
  .exact Fv.zero
 .obtain⟨i,hi,rfl⟩:=hm f hf
  split
  .rename_i c;exact hp i hi c
  .exact wbr _
def za5(ls:List Fm)(c:List Nat)(a:Nat):Prop :=
 c.Pairwise (fun x y=>x<y)/\(∀ i∈c,i<ls.length)/\(∀ p,¬Sat (pkF ls c) p)/\a<=c.length/\∀ j,j<a->∃ p,Sat (pkF ls (c.eraseIdx j)) p
theorem zv5{ls:List Fm}{c c':List Nat}{p:Nat->Int}(h:∀ x∈c',x∈c)(hs:Sat (pkF ls c) p):Sat (pkF ls c') p:=fun f hf=>by
 obtain⟨i,hi,rfl⟩:=Qp.1 hf;exact hs _ (Qp.2 ⟨i,h i hi,rfl⟩)
theorem za5.up{ls:List Fm}{c:List Nat}{a:Nat}(h:za5 ls c a)(ha:a<c.length)(hs:∃ p,Sat (pkF ls (c.eraseIdx a)) p):za5 ls c (a+1):=by
 obtain⟨h1,h2,h3,h4,h5⟩:=h;refine⟨h1,h2,h3,ha,fun j hj=>?_⟩;by_cases e:j=a
 .rw[e];exact hs
 .exact h5 j (by omega)
theorem za5.cut{ls:List Fm}{c:List Nat}{a:Nat}(h:za5 ls c a)(ha:a<c.length)(hs:∀ p,¬Sat (pkF ls (c.eraseIdx a)) p):za5 ls (c.eraseIdx a) a:=by
 obtain⟨h1,h2,h3,h4,h5⟩:=h;have hl:=wcW ha;refine⟨h1.sublist (List.eraseIdx_sublist c a),fun i hi=>h2 i (weo hi),hs,by omega,fun j hj=>?_⟩;obtain⟨p,hp⟩:=h5 j hj;refine⟨p,zv5 (fun x hx=>?_) hp⟩;obtain⟨i,hi,FA,rfl⟩:=wep.1 hx;rw[wep];rw[List.getElem_eraseIdx];by_cases e:i<a
 .rw[dif_pos e];exact⟨i,by omega,FA,rfl⟩
 .rw[dif_neg e];exact⟨i+1,by omega,by omega,rfl⟩
def Yg(P:Nat->Bool)(i:Nat):List Nat:=(List.range i).filter P
theorem zta(P:Nat->Bool)(i:Nat):Yg P (i+1)=if P i=true then Yg P i++[i]else Yg P i:=by
 unfold Yg;rw[wcN,wdt];by_cases c:P i=true
 .rw[Qc c,List.filter_cons_of_pos c];rfl
 .rw[Qb c,List.filter_cons_of_neg (by simpa using c)];simp
theorem zoe(P:Nat->Bool)(i:Nat):(Yg P i).length<=i:=by
 have:=wdX P (List.range i)
 rwa[wdY]at this
theorem zun{ls:List Fm}{P:Nat->Bool}(h:∀ p,¬Sat (pkF ls (Yg P ls.length)) p):za5 ls (Yg P ls.length) 0 :=
 ⟨wdZ _ wdu,(fun i hi=>wav.1 (wcg.1 hi).1),h,Qk _,fun j hj=>Qn hj (wa5 _)⟩
theorem zv6{ls:List Fm}{p:Nat->Int}(h:Sat (pkF ls (Yg (fun _=>true) ls.length)) p):Sat ls p:=fun f hf=>by
 obtain⟨i,hi,rfl⟩:=waQ.1 hf;have:=h (ls.getD i ([],0)) (Qp.2 ⟨i,wcg.2 ⟨wav.2 hi,rfl⟩,rfl⟩)
 rwa[waE,wab hi]at this
theorem zv7{ls:List Fm}{n C K:Nat}{g:List Rat}(h:zdp ls n g)(YY:∀ f∈ls,Fv n C K f)(p:Nat->Int):¬Sat (pkF ls (Yg (fun i=>decide (0<(g.getD i 0).num)) ls.length)) p:=fun hs =>
 h.sub YY fun i hi hp=>hs (ls.getD i ([],0)) (Qp.2 ⟨i,wcg.2 ⟨wav.2 hi,waC hp⟩,rfl⟩)
noncomputable def zbY(ls:List Fm)(x:List Nat×Nat):List Nat×Nat:=by
 classical exact if x.2<x.1.length then(if ∃ p,Sat (pkF ls (x.1.eraseIdx x.2)) p then(x.1,x.2+1)else(x.1.eraseIdx x.2,x.2))else x
theorem znF{ls:List Fm}{x:List Nat×Nat}(h:x.2<x.1.length)(h2:∃ p,Sat (pkF ls (x.1.eraseIdx x.2)) p):zbY ls x=(x.1,x.2+1):=by
 unfold zbY;rw[Qc h,Qc h2]
theorem zoD{ls:List Fm}{x:List Nat×Nat}(h:x.2<x.1.length)(h2:∀ p,¬Sat (pkF ls (x.1.eraseIdx x.2)) p):zbY ls x=(x.1.eraseIdx x.2,x.2):=by
 unfold zbY;rw[Qc h,Qb fun h=>by obtain⟨p,hp⟩:=h;exact h2 p hp]
noncomputable def itC(ls:List Fm)(c:List Nat):Nat->List Nat×Nat
 |0=>(c,0)
 |k+1=>zbY ls (itC ls c k)
theorem ztG{ls:List Fm}{x:List Nat×Nat}(h:za5 ls x.1 x.2)(hl:x.2<x.1.length):za5 ls (zbY ls x).1 (zbY ls x).2/\(zbY ls x).1.length-(zbY ls x).2+1=x.1.length-x.2:=by
 by_cases c:∃ p,Sat (pkF ls (x.1.eraseIdx x.2)) p
 .rw[znF hl c];exact⟨h.up hl c,by show x.1.length-(x.2+1)+1=_;omega⟩
 .have c':∀ p,¬Sat (pkF ls (x.1.eraseIdx x.2)) p:=fun p hp=>c ⟨p,hp⟩
  rw[zoD hl c'];refine⟨h.cut hl c',?_⟩;show(x.1.eraseIdx x.2).length-x.2+1=_;rw[wcW hl];omega
theorem zhq{ls:List Fm}{c:List Nat}(h:za5 ls c 0):∀ k,(∀ r,r<k->(itC ls c r).2<(itC ls c r).1.length)->za5 ls (itC ls c k).1 (itC ls c k).2/\(itC ls c k).1.length-(itC ls c k).2+k=c.length
 |0,_=>⟨h,by show c.length-0+0=_;omega⟩
 |k+1,hr=>by
  obtain⟨h1,h2⟩:=zhq h k fun r ST=>hr r (by omega)
  obtain⟨h3,h4⟩:=ztG h1 (hr k (by omega));exact⟨h3,by show(zbY ls _).1.length-(zbY ls _).2+(k+1)=_;omega⟩
theorem zwJ{ls:List Fm}{c:List Nat}(h:za5 ls c 0):∃ T,T<=c.length/\(∀ r,r<T->(itC ls c r).2<(itC ls c r).1.length)/\(itC ls c T).2=(itC ls c T).1.length:=by
 obtain⟨T,h1,h2,h3⟩:=zg4 (fun k=>¬(itC ls c k).2<(itC ls c k).1.length) c.length;have h2:∀ r,r<T->(itC ls c r).2<(itC ls c r).1.length:=fun r hr=>wcT.1 (h2 r hr)
 obtain⟨h4,h5⟩:=zhq h T h2;have h6:=h4.2.2.2.1;refine⟨T,h1,h2,?_⟩;by_cases c:T<c.length
 .have:=h3 c;omega
 .omega
theorem zoE(hD:zdh)(ls:List Fm)(n:Nat){okb:Bool}{W:Go.Abs.T}{X:TV}{g:List Rat}{P:Nat->Bool}{G B:Nat}(hl:ls.length<=60)(hn:n<=40)(hP:(okb=true/\P=fun _=>true)\/(okb=false/\W=eL cR g/\g.length=ls.length/\P=fun i=>decide (0<(g.getD i 0).num)))(hG:∀ q∈g,lQ q<=G)(Dv:G<=400000000)
  (hs:Q7 prog 13 [.one (eL cF ls),tI .i64 n] (.tup [.one (.seq (some true) []),tB false,tI .i64 0])) (hx:Q7 prog 34 [.one (eL cF ls),tI .i64 n] (.tup [X,.one W,tB okb]))
  (hu:∀ p,¬Sat (pkF ls (Yg P ls.length)) p) (YL:∀ c:List Nat,(∀ i∈c,i<ls.length)->c.length<=ls.length->zbq (pkF ls c) n B) :
  ∃ c,za5 ls c c.length/\Q7 prog 16 [.one (eL cF ls),tI .i64 n] (.tup [.one (eL cI1 c),tI .i64 0]):=by
 obtain⟨R,hR⟩:∃ R,R=ls.length:=⟨_,rfl⟩
 have We:=zun hu;have hne:Yg P ls.length≠[]:=fun e=>by
  rw[e]at hu;exact hu (fun _=>0) fun f hf=>by cases hf
 obtain⟨c0,XN⟩:∃ c0,c0=Yg P ls.length:=⟨_,rfl⟩
 rw[<-XN]at We hne;have HC:c0.length<=R:=by rw[XN,hR];exact zoe P _
 obtain⟨T,Uj,WD,KF⟩:=zwJ We;have Mt:=(zhq We T WD).1;rw[KF]at Mt;have Dw:∀ k,k<=T->za5 ls (itC ls c0 k).1 (itC ls c0 k).2:=fun k hk=>(zhq We k fun r hr=>WD r (by omega)).1
 have SU:∀ k,k<=T->(itC ls c0 k).1.length-(itC ls c0 k).2+k=c0.length:=fun k hk=>(zhq We k fun r hr=>WD r (by omega)).2
 have Xo:∀ k,(itC ls c0 k).1.length<=R:=fun k=>by
  induction k with
  |zero=>exact HC
  |succ k ih =>
   show(zbY ls _).1.length<=R;unfold zbY;split
   .split
    .exact ih
    .exact Qo (List.length_eraseIdx_le _ _) ih
   .exact ih
 refine⟨_,Mt,?_⟩;have Vr:0<R:=by have:=wbc.2 hne;omega
 rw[<-hR]at XN;refine QH QB call16 func16 rfl ntmps16 results16 (by simp) (by decide) ?_;simp only[go_sem];refine Q2 hs rfl ?_;simp only[go_sem];refine Q2 hx rfl ?_;simp only[go_sem,<-hR];refine QJ (fun i:Nat=>if i=R then stL 79 [(0,.one (.t (eL cF ls))),(1,litI .i64 n),(9,.one (.t (eL cI1 c0))),(39,litI .i64 R),(40,litI .i64 i)] []
  else stL 79 [(0,.one (.t (eL cF ls))),(1,litI .i64 n),(9,zae 1000 1 (Yg P i)),(11,.one (.t W)),(12,QO okb),(39,litI .i64 R),(40,litI .i64 i)] (Zb 1000 cI1 (Yg P i))) (fun i=>i<=R) (fun i=>R-i) 0 ?_ (Qk _) ?_
 .rw[Qb (by omega),show Yg P 0=[]from rfl]
  (refine Q6 rfl ?_ ?_ ?_ ?_<;>(try simp only[go_sem])<;>(try simp))
 .intro i hi
  by_cases Ds:i=R
  .subst Ds
   clear hi;have J0:((i:Int)<(i:Int))=False:=Ql (by omega);simp only[Qc];simp only[go_sem,J0];refine QJ (fun k:Nat=>stL 79 [(0,.one (.t (eL cF ls))),(1,litI .i64 n),(9,.one (.t (eL cI1 (itC ls c0 k).1))),(14,litI .i64 (itC ls c0 k).2)] []) (fun k=>k<=T) (fun k=>T-k) 0 ?_ (Qk _) ?_
   .show Go.Abs.GStep _ (stL 79 [(0,.one (.t (eL cF ls))),(1,litI .i64 n),(9,.one (.t (eL cI1 c0))),(14,litI .i64 ((0:Nat):Int))] [])
    (refine Q6 rfl ?_ ?_ ?_ ?_<;>(try simp only[go_sem])<;>(try simp))
   .intro k hk
    have N0:=Dw k hk;have V3:itC ls c0 (k+1)=zbY ls (itC ls c0 k):=rfl;have EP:(itC ls c0 k).2<(itC ls c0 k).1.length↔k<T:=⟨fun h=>by
     by_cases e:k=T
     .rw[e,KF]at h;exact Qn h (wa8 _)
     .omega,WD k⟩
    have Dx:=Xo k;have Y9:k=T->(itC ls c0 T).1=(itC ls c0 k).1:=fun e=>by rw[e]
    generalize YM:itC ls c0 k=st at *
    obtain⟨c,a⟩:=st;have N0:za5 ls c a:=N0;have EP:a<c.length↔k<T:=EP;have Dx:c.length<=i:=Dx;simp only[go_sem];refine QI (fun Y1=>?_) (fun YI=>?_)
    .have Dy:a<c.length:=by omega
     have Rs:=EP.1 Dy;have ow:=zsH hD c a Dy (by omega);have Y5:=wcW Dy;have Mu:∀ x∈c.eraseIdx a,x<ls.length:=fun x hx=>N0.2.1 x (weo hx)
     have os:=zwo ls (c.eraseIdx a) Mu (by omega);obtain⟨o,Va,Jl⟩:=YL (c.eraseIdx a) Mu (by omega);have Rd:∀ q,o=some q->itC ls c0 (k+1)=(c,a+1):=fun q hq=>by
      rw[V3];rw[hq]at Va;exact znF (x:=(c,a)) Dy ⟨q,Va.1⟩
     have Di:o=none->itC ls c0 (k+1)=(c.eraseIdx a,a):=fun hq=>by
      rw[V3];rw[hq]at Va;exact zoD (x:=(c,a)) Dy Va
     generalize pkF ls (c.eraseIdx a)=PK at *
     generalize c.eraseIdx a=c2 at *
     simp only[go_sem];((repeat(refine Q3 0 rfl ?_;simp only[go_sem]));refine Q2 (ow) rfl ?_;simp only[go_sem];(repeat(refine Q3 0 rfl ?_;simp only[go_sem]));refine Q2 (os) rfl ?_;simp only[go_sem];(repeat(refine Q3 0 rfl ?_;simp only[go_sem])));cases o with
     |none =>
      refine zdL (.inr rfl) Jl rfl ?_;simp only[go_sem];refine⟨k+1,Rs,(by show T-(k+1)<T-k;omega),?_⟩
      (refine Q6 rfl ?_ ?_ ?_ ?_<;>(try simp only[go_sem,Di rfl])<;>(try simp))
     |some q =>
      refine zdK 900000 (.inr rfl) Jl rfl (by simp only[go_sem]) (by decide) ?_;simp only[go_sem];refine⟨k+1,Rs,(by show T-(k+1)<T-k;omega),?_⟩
      (refine Q6 rfl ?_ ?_ ?_ ?_<;>(try simp only[go_sem,Rd q rfl,Q4 (n:=(a:Int)+1) (by omega) (by omega)])<;>(try simp))
    .have Rs:k=T:=by
      have:¬k<T:=fun h=>by have:=EP.2 h;omega
      omega
     rw[Y9 Rs];simp only[go_sem];exact zao Yk (.one .t)
  .simp only[Qb Ds]
   have Yz:i<R:=by omega
   have XM:IntKind.wrap .i64 ((i:Int)+1)=((i+1:Nat):Int):=by rw[Q4 (by omega) (by omega)];omega
   have Vz:((i:Int)<(R:Int))=True:=Qh (by omega);have NA:=zta P i;have RK:=zoe P i;obtain⟨CM,WA⟩:∃ CM,CM=stL 79 [(0,.one (.t (eL cF ls))),(1,litI .i64 n),(9,zae 1000 1 (Yg P (i+1))),(11,.one (.t W)),(12,QO okb),(39,litI .i64 R),(40,litI .i64 (i+1:Nat))] (Zb 1000 cI1 (Yg P (i+1))):=⟨_,rfl⟩
   have Y9:Go.Abs.GStep CM (if i+1=R then stL 79 [(0,.one (.t (eL cF ls))),(1,litI .i64 n),(9,.one (.t (eL cI1 c0))),(39,litI .i64 R),(40,litI .i64 (i+1:Nat))] []
     else stL 79 [(0,.one (.t (eL cF ls))),(1,litI .i64 n),(9,zae 1000 1 (Yg P (i+1))),(11,.one (.t W)),(12,QO okb),(39,litI .i64 R),(40,litI .i64 (i+1:Nat))] (Zb 1000 cI1 (Yg P (i+1)))):=by
    by_cases e2:i+1=R
    .rw[Qc e2,WA]
     rw[show Yg P (i+1)=c0 by rw[XN,e2]];cases Jj:c0 with
     |nil=>exact(hne Jj).elim
     |cons z zs =>
      refine GStep.trans (zbj (b:=1000) (sz:=1) (len:=(z::zs).length) (by simp only[go_sem,znX]<;>rfl) (Yp Ya)) ?_
      (refine Q6 rfl ?_ ?_ ?_ ?_<;>(try simp only[go_sem,znW,znX])<;>(try simp))
    .rw[Qb e2,WA]
     (refine Q6 rfl ?_ ?_ ?_ ?_<;>(try simp only[go_sem])<;>(try simp))
   rcases hP with⟨rfl,Pn⟩|⟨rfl,hW,Gr,Po⟩
   .have Y0:Yg P (i+1)=Yg P i++[i]:=by rw[NA,Pn];rfl
    generalize Yg P i=ac at *
    simp only[go_sem,Vz];refine ZF (sz:=1) (bytes:=8) (by simp only[go_sem,QW]<;>decide) Ya ac [i] (b:=1000) (by simp only[go_sem]<;>rfl) (by simp only[go_sem]<;>rfl) (by simp only[go_sem]<;>rfl) rfl (by simp) (by simp only[Qe,Qi]at *;omega) (by decide) ?_;simp only[go_sem];refine⟨i+1,by omega,(by show R-(i+1)<R-i;omega),GStep.trans (σ₁:=CM) ?_ Y9⟩;rw[WA,Y0]
    (refine Q6 rfl ?_ ?_ ?_ ?_<;>(try simp only[go_sem,XM])<;>(try simp))
   .subst hW
    have Nq:i<g.length:=by omega
    have Y5:QP cR g i=cR g[i]:=Q8 Nq;have Gp:=hG _ (Qf Nq);have KM:=zaF g[i];have WI:g.getD i 0=g[i]:=by rw[waE,wab Nq];rfl
    have HD:((i:Int)<(g.length:Int))=True:=Qh (by omega);have Mv:P i=decide (0<g[i].num):=by rw[Po];show decide (0<(g.getD i 0).num)=_;rw[WI]
    generalize g[i]=q at *
    have o1:=zdJ q.num (by omega);simp only[go_sem,Vz,Y5,HD]
    (repeat(refine Qg (by omega) ?_))
    refine Q2 o1 rfl ?_;by_cases hq:0<q.num
    .have YR:(q.num.sign>0)=True:=Qh (by rw[wbQ hq];decide)
     have UX:(0<q.num.sign)=True:=YR;have Y0:Yg P (i+1)=Yg P i++[i]:=by rw[NA,Mv,Qc (waC hq)]
     generalize Yg P i=ac at *
     simp only[go_sem,YR];refine ZF (sz:=1) (bytes:=8) (by simp only[go_sem,QW]<;>decide) Ya ac [i] (b:=1000) (by simp only[go_sem]<;>rfl) (by simp only[go_sem]<;>rfl) (by simp only[go_sem]<;>rfl) rfl (by simp) (by simp only[Qe,Qi]at *;omega) (by decide) ?_;simp only[go_sem];refine⟨i+1,by omega,(by show R-(i+1)<R-i;omega),GStep.trans (σ₁:=CM) ?_ Y9⟩;rw[WA,Y0]
     (refine Q6 rfl ?_ ?_ ?_ ?_<;>(try simp only[go_sem,XM])<;>(try simp))
    .have UX:(0<q.num.sign)=False:=Ql (fun h=>hq (wdB.1 h))
     have YR:(q.num.sign>0)=False:=UX;have Y0:Yg P (i+1)=Yg P i:=by rw[NA,Mv,Qb (by simpa using hq)]
     generalize Yg P i=ac at *
     simp only[go_sem,YR];refine⟨i+1,by omega,(by show R-(i+1)<R-i;omega),GStep.trans (σ₁:=CM) ?_ Y9⟩;rw[WA,Y0]
     (refine Q6 rfl ?_ ?_ ?_ ?_<;>(try simp only[go_sem,XM])<;>(try simp))
def FL2(l:LL):Prop:=(l.1.length<=4/\(iv l.2.1 l.2.2).natAbs<=999)/\∀ m∈l.1,(iv m.2.1 m.2.2).natAbs<=9
instance (l:LL):Decidable (FL2 l):=by unfold FL2;exact inferInstance
theorem zty{f:Fm}{n:Nat}(h:∀ m∈f.1,m.1<n)(hne:(ZC f).1≠[]):zhR (ZC f)<n:=by
 unfold zhR;rw[zon hne];show((ZC f).1[(ZC f).1.length-1]'_).1<(n:Int);have hm:=Qf (l:=(ZC f).1) (n:=(ZC f).1.length-1) (by have:=wbc.2 hne;omega);obtain⟨m,Nn,e⟩:=Qp.1 (show _∈f.1.map eMn from hm);rw[<-e];have:=h m Nn;show((m.1:Nat):Int)<(n:Int);omega
theorem zoC(ls:List Fm){n:Nat}(hn:n<=40)(hl:ls.length<=60)(h:∀ f∈ls,Fv n 1 1 f):Q7 prog 30 [.one (eL cF ls),tI .i64 n] (tI .i64 0):=by
 have hw:=zg9 (ls.map ZC) n (by omega) (by omega) (by rw[Qm];omega) fun l hm=>by
  obtain⟨f,hf,rfl⟩:=Qp.1 hm;have hF:=h f hf;have hb:=zbC (hF.bd (L:=1) (by omega) (Qd _) (Qd _));have KM:(ZC f).1.length<=n:=hb.1;exact⟨by omega,fun m hm=>⟨by have:=(hb.2.1 m hm).2;omega,(hb.2.1 m hm).1⟩,by have:=hb.2.2;omega⟩
 rw[zlD]at hw;have e:zb2 (ls.map ZC) (n:Int)=0:=by
  unfold zb2;rw[Qb (by rw[Qm];omega),Qb];rintro(⟨l,hm,hb⟩|hb)
  .obtain⟨f,hf,rfl⟩:=Qp.1 hm
   have hF:=h f hf;rcases hb with hb|hb|⟨h1,h2⟩
   .exact hb (zpt hF.wf)
   .omega
   .have:=zty hF.lt h1;omega
  .omega
 rw[e]at hw;exact hw
theorem zfx(ls:List Fm){n:Nat}(hn:n<=4)(hl:ls.length<=8)(h:∀ f∈ls,Fv n 1 1 f):∃ o,zbV ls n 840000000 o/\Q7 prog 13 [.one (eL cF ls),tI .i64 n] (.tup [xT n o,tB o.isSome,tI .i64 0]):=by
 obtain⟨o,h1,h2⟩:=zo3 ls n hn h hl;exact⟨o,h1,zkA ls n (zoC ls (by omega) (by omega) h) h2⟩
theorem zqy{n:Nat}{p:Nat->Int}{v:Nat}(hv:v<n):ptX (fnG n fun j=>Yw (p j)) v=p v:=by
 unfold ptX;rw[wab (by rw[Zj];exact hv),za4];exact zhG _
theorem zmE(ls:List Fm){n:Nat}(hn:n<=4)(hl:ls.length<=60)(h:∀ f∈ls,Fv n 1 1 f)(p:Nat->Int)(hp:∀ v,v<n->lN (p v)<=840000000):Q7 prog 15 [.one (eL cF ls),.one (eL cJ (fnG n p))] (tB (decide (∀ f∈ls,atF f p<=0))):=by
 have ha:=zxY (ls.map ZC) (fnG n fun j=>Yw (p j)) (N:=4) (L:=1) (K:=840000000) (by decide) (by decide) (by decide) (by rw[Qm];omega) (fun l hm=>by
  obtain⟨f,hf,rfl⟩:=Qp.1 hm;have hb:=zbC ((h f hf).bd (L:=1) (by omega) (Qd _) (Qd _));exact⟨by have:=hb.1;have h2:=zgG (h f hf).wf (h f hf).lt;show(f.1.map eMn).length<=4;rw[Qm];omega,hb.2⟩) (by rw[Zj];omega) (fun q hq=>by
   obtain⟨i,hi,rfl⟩:=zfb hq;exact hp i hi)
 rw[zlD]at ha;have e1:tLI (fnG n fun j=>Yw (p j)) = .one (eL cJ (fnG n p)):=by rw[zqz]
 rw[e1]at ha;refine zwV ha ⟨fun h1 f hf=>?_,fun h1 l hm=>?_⟩
 .have h2:=h1 (ZC f) (Qp.2 ⟨f,hf,rfl⟩)
  rw[zcf (h f hf).wf]at h2
  rwa[zgu (f:=f) (q:=p) fun m hm=>zqy ((h f hf).lt m hm)]at h2
 .obtain⟨f,hf,rfl⟩:=Qp.1 hm
  rw[zcf (h f hf).wf,zgu (f:=f) (q:=p) fun m hm=>zqy ((h f hf).lt m hm)];exact h1 f hf
theorem zeA(c k:Int)(hc:c≠0)(h1 : -1000000000<c/\c<1000000000)(h2 : -1000000000<k/\k<1000000000):Q7 prog 17 [tI .i64 c,tI .i64 k] (eF (lF c k)):=by
 refine QH QB call17 func17 rfl ntmps17 results17 (by simp) (by decide) ?_;have lc:lN c<=1:=ZQ (by omega);have lk:lN k<=1:=ZQ (by omega);have o1:=zbt c (by omega) (by omega);have o2:=zbt k (by omega) (by omega);have v0:Q7 prog 18 [tI .i64 0] (eF (Zf 0)):=zl8 0 (by decide) (by decide);have w0:WF (Zf 0):=zjz 0;have b0:Bd 1 1 (Zf 0):=ztV (by decide) (ZQ (by decide)) (by rw[ZG];omega);have sc:=zio (Zf 0) c (by decide) (by decide) w0 b0 (by omega);have wS:=zbE w0 c;have bS:=zhP b0 c;have co:=znl k (by omega);have ad:=zn0 (scF (Zf 0) c) (Zd k) (N:=2) (L:=2) (by decide) (by decide) wS (zel k) (bS.mono (by decide) (by omega)) ⟨Qk _,(fun m hm=>by cases hm),by show lN k<=2;omega⟩;rw[zwz hc]at ad;generalize scF (Zf 0) c=S at *
 generalize Zf 0=V0 at *
 generalize Zd k=C at *
 generalize lF c k=F at *
 simp only[go_sem];((repeat(refine Q3 0 rfl ?_;simp only[go_sem]));refine Q2 (v0) rfl ?_;simp only[go_sem];(repeat(refine Q3 0 rfl ?_;simp only[go_sem]));refine Q2 (o1) rfl ?_;simp only[go_sem];(repeat(refine Q3 0 rfl ?_;simp only[go_sem]));refine Q2 (sc) rfl ?_;simp only[go_sem];(repeat(refine Q3 0 rfl ?_;simp only[go_sem]));refine Q2 (o2) rfl ?_;simp only[go_sem];(repeat(refine Q3 0 rfl ?_;simp only[go_sem]));refine Q2 (co) rfl ?_;simp only[go_sem];(repeat(refine Q3 0 rfl ?_;simp only[go_sem]));refine Q2 (ad) rfl ?_;simp only[go_sem];(repeat(refine Q3 0 rfl ?_;simp only[go_sem])));exact Zv .t .t .t
theorem zeM{c k:Int}(hc:c≠0)(h1 : -1000000000<c/\c<1000000000)(h2 : -1000000000<k/\k<1000000000):Fv 1 1 1 (lF c k) :=
 ⟨ztW hc,fun m hm=>by rw[Qr.1 hm];exact Nat.zero_lt_one,fun m hm=>by rw[Qr.1 hm];show lN c<=1;exact ZQ (by omega),by show lN k<=1;exact ZQ (by omega)⟩
theorem zcB(c k:Int)(p:Nat->Int):atF (lF c k) p=k+c*p 0:=ztX 0 c k p
theorem zyc(f:Fm){n:Nat}(hn:n<=4)(hf:Fv n 1 1 f):Q7 prog 19 [eF f] (.one (eL cF [f,scF f (-1)])):=by
 have o1:Q7 prog 22 [tI .i64 (-1)] (eI (-1)):=zbt (-1) (by decide) (by decide);have l1:lN (-1)<=1:=ZQ (by decide);have o2:=zio f (-1) (N:=4) (L:=1) (by decide) (by decide) hf.wf ((hf.bd (by omega) (Qd _) (Qd _)).mono (by omega) (Qd _)) (by omega);refine QH QB call19 func19 rfl ntmps19 results19 (by simp) (by decide) ?_;generalize scF f (-1)=g at *
 generalize hu:(-1:Int)=u at *
 simp only[go_sem];refine Q3 0 rfl ?_;simp only[go_sem];refine Q2 o1 rfl ?_;simp only[go_sem];refine Q2 o2 rfl ?_;simp only[go_sem];exact zx6 rfl
theorem zy2(cs:List Int)(k:Int)(hl:cs.length<=4)(h1:∀ c∈cs,-1000000000<c/\c<1000000000)(h2 : -1000000000<k/\k<1000000000):Q7 prog 20 [.one (eL ZW cs),tI .i64 k] (eF (foJ k (fun j=>cs.getD j 0) 0 cs.length)):=by
 have lk:lN k<=1:=ZQ (by omega);have hu:∀ j,lN (cs.getD j 0)<=1:=fun j=>by
  rw[waE];cases e:cs[j]? with
  |none=>show lN 0<=1;rw[ZG];omega
  |some c=>have:=h1 c (wcU e);show lN c<=1;exact ZQ (by omega)
 have hF:∀ m,m<=4->Fv 4 1 1 (foJ k (fun j=>cs.getD j 0) 0 m):=fun m hm=>zjl lk (fun j _=>hu (0+j)) m hm
 have o1:=zbt k (by omega) (by omega);have o2:=znl k (by omega);refine QH QB call20 func20 rfl ntmps20 results20 (by simp) (by decide) ?_;simp only[go_sem];refine Q2 o1 rfl ?_;simp only[go_sem];refine Q2 o2 rfl ?_;simp only[go_sem];refine QJ (fun i:Nat=>stL 27 [(0,.one (.t (eL ZW cs))),(4,.one (.ptr 4 0)),(5,.one (.ptr 5 0)),(6,litI .i64 i)] [(4,[.t (.seq (some true) []),.t (.lit (.bool false)),.t (.seq (some true) [])]),(5,(cF (foJ k (fun j=>cs.getD j 0) 0 i)).map .t)]) (fun i=>i<=cs.length) (fun i=>cs.length-i) 0 ?_ (Qk _) ?_
 .show Go.Abs.GStep _ (stL 27 [(0,.one (.t (eL ZW cs))),(4,.one (.ptr 4 0)),(5,.one (.ptr 5 0)),(6,litI .i64 ((0:Nat):Int))] [(4,[.t (.seq (some true) []),.t (.lit (.bool false)),.t (.seq (some true) [])]),(5,(cF (Zd k)).map .t)])
  (refine Q6 rfl ?_ ?_ ?_ ?_<;>(try simp only[go_sem])<;>(try simp))
 .intro i hi
  simp only[go_sem];refine QI (fun Y1=>?_) (fun YI=>?_)
  .have Yz:i<cs.length:=by omega
   have Y5:QP ZW cs i=ZW cs[i]:=Q8 Yz;have hc:=h1 _ (Qf Yz);have hg:cs.getD i 0=cs[i]:=by rw[waE,wab Yz];rfl
   have hs:foJ k (fun j=>cs.getD j 0) 0 (i+1)=QN (foJ k (fun j=>cs.getD j 0) 0 i) (scF (Zf i) cs[i]):=by
    show QN _ (scF (Zf i) (cs.getD (0+i) 0))=_;rw[waT,hg]
   have f1:=hF i (by omega);have fv:Fv 4 1 0 (Zf i):=Fv.var (by omega);have p1:Q7 prog 18 [tI .i64 (i:Int)] (eF (Zf i)):=by have:=zl8 (i:Int) (by omega) (by omega);rwa[wbB]at this
   generalize cs[i]=c at *
   have Xo:lN c<=1:=ZQ (by omega);have p2:=zbt c (by omega) (by omega);have p3:=zio (Zf i) c (N:=4) (L:=1) (by decide) (by decide) fv.wf ((fv.bd (L:=1) (by omega) (by omega) (by omega)).mono (by omega) (Qd _)) (by omega);have fs:=fv.sc (c:=c) Xo;have p4:=zn0 (foJ k (fun j=>cs.getD j 0) 0 i) (scF (Zf i) c) (N:=4) (L:=2) (by decide) (by decide) f1.wf fs.wf (f1.bd (by omega) (by omega) (by omega)) (fs.bd (by omega) (by omega) (by omega));rw[<-hs]at p4;have Vz:((i:Int)<(cs.length:Int))=True:=Qh (by omega);have Ul:((0:Int)<=(i:Int))=True:=Qh (by omega);clear f1 fs fv;generalize Hl:foJ k (fun j=>cs.getD j 0) 0 (i+1)=g3 at *
   generalize foJ k (fun j=>cs.getD j 0) 0 i=g1 at *
   generalize scF (Zf i) c=g2 at *
   generalize Zf i=g0 at *
   simp only[go_sem,Y1];refine Q3 0 rfl ?_;simp only[go_sem]
   (repeat(refine Qg (by omega) ?_))
   refine Q2 p1 rfl ?_;simp only[go_sem,Y5,Vz,Ul]
   (repeat(refine Qg (by omega) ?_))
   refine Q2 p2 rfl ?_;simp only[go_sem];refine Q2 p3 rfl ?_;simp only[go_sem];refine Q2 p4 rfl ?_;simp only[go_sem];refine⟨i+1,Yz,(by show cs.length-(i+1)<cs.length-i;omega),?_⟩
   (refine Q6 rfl ?_ ?_ ?_ ?_<;>(try simp only[go_sem,Hl,Q4 (n:=(i:Int)+1) (by omega) (by omega)])<;>(try simp))
  .obtain rfl:i=cs.length:=by omega
   simp only[go_sem];exact Zv .t .t .t
theorem zxH{ls:List Fm}{n C K:Nat}(h:∀ f∈ls,Fv n C K f){c:List Nat}(hc:∀ i∈c,i<ls.length):∀ f∈pkF ls c,Fv n C K f:=fun f hf=>by
 obtain⟨i,hi,rfl⟩:=Qp.1 hf;rw[waE,wab (hc i hi)];exact h _ (Qf _)
theorem zv9(ls:List Fm)(c:List Nat):(pkF ls c).length=c.length:=Qm _
theorem zyQ(hD:zdh)(ls:List Fm){n:Nat}(hn:n<=4)(hl:ls.length<=8)(h:∀ f∈ls,Fv n 1 1 f)(hu:∀ p,¬Sat ls p) :
  ∃ c,za5 ls c c.length/\Q7 prog 16 [.one (eL cF ls),tI .i64 n] (.tup [.one (eL cI1 c),tI .i64 0]):=by
 obtain⟨o,h1,h2⟩:=zfx ls hn hl h;cases o with
 |some p=>exact Qn h1.1 (hu p)
 |none =>
  have YL:∀ c:List Nat,(∀ i∈c,i<ls.length)->c.length<=ls.length->zbq (pkF ls c) n 840000000:=fun c hc Xo=>zo3 (pkF ls c) n hn (zxH h hc) (by rw[zv9];omega)
  rcases zoW ls n (C:=1) (K:=1) hn (by omega) h (by decide)with⟨x,_,_,hs,_⟩|⟨g,Ws,UD,O1,hs⟩
  .exact zoE hD ls n (okb:=true) (g:=[]) (P:=fun _=>true) (G:=0) (by omega) (by omega) (.inl ⟨rfl,rfl⟩) (fun q hq=>by cases hq) (by decide) h2 hs (fun p hp=>hu p (zv6 hp)) YL
  .exact zoE hD ls n (okb:=false) (g:=g) (P:=fun i=>decide (0<(g.getD i 0).num)) (G:=4*1+1+6) (by omega) (by omega) (.inr ⟨rfl,rfl,Ws,rfl⟩) UD (by decide) h2 hs (zv7 O1 h) YL
theorem zuo{f g h:Fm}{c:List Nat}(hc:za5 [f,g,h] c c.length)(h1:∃ p,Sat [f] p)(h2:∃ p,Sat [g] p)(h3:∃ p,Sat [h] p)(h4:∀ p,¬Sat [g,h] p):c.length=2:=by
 obtain⟨a1,a2,a3,_,a5⟩:=hc
 match c,a1,a2,a3,a5 with
 |[],_,_,a3,_=>exact Qn (fun f hf=>by cases hf) (a3 fun _=>0)
 |[i],_,a2,a3,_ =>
  have hi:i<3:=a2 i wam;have hk:i=0\/i=1\/i=2:=by omega
  rcases hk with rfl|rfl|rfl
  .obtain⟨p,hp⟩:=h1;exact Qn hp (a3 p)
  .obtain⟨p,hp⟩:=h2;exact Qn hp (a3 p)
  .obtain⟨p,hp⟩:=h3;exact Qn hp (a3 p)
 |[_,_],_,_,_,_=>rfl
 |i::j::k::r,a1,a2,_,a5 =>
  have e1:=(wca.1 a1).1;have e2:=(wca.1 (wca.1 a1).2).1;have b1:=e1 j wam;have b2:=e2 k wam;have b3:k<3:=a2 k (wal _ (wal _ wam));obtain rfl:i=0:=by omega
  obtain rfl:j=1:=by omega
  obtain rfl:k=2:=by omega
  obtain⟨p,hp⟩:=a5 0 (by simp);refine Qn (fun x hx=>hp x ?_) (h4 p);show x∈g::h::_;rcases wad.1 hx with rfl|hx
  .exact wam
  .obtain rfl:=Qr.1 hx;exact wal _ wam
theorem zdN{f g:Fm}{p:Nat->Int}:Sat [f,g] p↔atF f p<=0/\atF g p<=0:=by
 rw[Sat.cons,Sat.cons];exact⟨fun h=>⟨h.1,h.2.1⟩,fun h=>⟨h.1,h.2,Sat.nil⟩⟩
theorem zlr{f:Fm}{p:Nat->Int}:Sat [f] p↔atF f p<=0:=by
 rw[Sat.cons];exact⟨fun h=>h.1,fun h=>⟨h,Sat.nil⟩⟩
theorem zhk(hD:zdh):Q7 prog 10 [] (tB true):=by
 have v1:=zeM (c:=2) (k:=-5) (by decide) (by decide) (by decide);have v2:=zeM (c:=-2) (k:=3) (by decide) (by decide) (by decide);have v3:=zeM (c:=2) (k:=-1) (by decide) (by decide) (by decide);have v4:=zeM (c:=-2) (k:=1) (by decide) (by decide) (by decide);have v5:=zeM (c:=1) (k:=0) (by decide) (by decide) (by decide);have f1:=zeA 2 (-5) (by decide) (by decide) (by decide);have f2:=zeA (-2) 3 (by decide) (by decide) (by decide);have f3:=zeA 2 (-1) (by decide) (by decide) (by decide);have f4:=zeA (-2) 1 (by decide) (by decide) (by decide);have f5:=zeA 1 0 (by decide) (by decide) (by decide);obtain⟨oA,tA,hA⟩:=zfx [lF 2 (-5),lF (-2) 3] (n:=1) (by decide) (by decide) (Qs.2 ⟨v1,Qs.2 ⟨v2,fun f hf=>by cases hf⟩⟩);obtain⟨oB,tBB,hB⟩:=zfx [lF 2 (-1),lF (-2) 1] (n:=1) (by decide) (by decide) (Qs.2 ⟨v3,Qs.2 ⟨v4,fun f hf=>by cases hf⟩⟩);have X8:∀ p,¬Sat [lF 2 (-1),lF (-2) 1] p:=fun p hp=>by
  have:=zdN.1 hp;rw[zcB,zcB]at this;omega
 obtain⟨c,hc,hC⟩:=zyQ hD [lF 1 0,lF 2 (-1),lF (-2) 1] (n:=1) (by decide) (by decide) (Qs.2 ⟨v5,Qs.2 ⟨v3,Qs.2 ⟨v4,fun f hf=>by cases hf⟩⟩⟩) (fun p hp=>X8 p (Sat.cons.1 hp).2);have Xo:=zuo hc ⟨fun _=>0,zlr.2 (by rw[zcB];decide)⟩ ⟨fun _=>0,zlr.2 (by rw[zcB];decide)⟩ ⟨fun _=>1,zlr.2 (by rw[zcB];decide)⟩ X8;obtain⟨i,j,rfl⟩:∃ i j,c=[i,j]:=by
  match c,Xo with
  |[i,j],_=>exact⟨i,j,rfl⟩
 have hE:=zg2 [] (-1) 10 (by decide) (zg9 [] (-1) (by decide) (by decide) (by simp) (fun l hl=>by cases hl));have o1:Q7 prog 22 [tI .i64 2] (eI 2):=zbt 2 (by decide) (by decide);have l2:lN 2<=1:=ZQ (by decide);have q1:=zbT (znt 2 2 (by omega) (by omega)) rfl;cases oB with
 |some p=>exact Qn tBB.1 (X8 p)
 |none =>
  cases oA with
  |none=>exact Qn (zdN.2 (by rw[zcB,zcB];decide)) (tA fun _=>2)
  |some p =>
   have KT:p 0=2:=by
    have:=zdN.1 tA.1;rw[zcB,zcB]at this;omega
   have LA:xT 1 (some p) = .one (eL cJ [2]):=by
    show TV.one (eL cJ [p 0])=_;rw[KT]
   rw[LA]at hA;clear tA tBB X8 hc Xo v1 v2 v3 v4 v5 KT LA;have hA:=hA.tw (tvs':=[.one (.seq (some false) [cF (lF 2 (-5)),cF (lF (-2) 3)]),tI .i64 1]) (.cons (.one .weak) (.cons TVW.refl1 .nil));have hB:=hB.tw (tvs':=[.one (.seq (some false) [cF (lF 2 (-1)),cF (lF (-2) 1)]),tI .i64 1]) (.cons (.one .weak) (.cons TVW.refl1 .nil));have hC:=hC.tw (tvs':=[.one (.seq (some false) [cF (lF 1 0),cF (lF 2 (-1)),cF (lF (-2) 1)]),tI .i64 1]) (.cons (.one .weak) (.cons TVW.refl1 .nil));have hE:=hE.tw (tvs':=[.one (.seq (some true) []),tI .i64 (-1)]) (.cons (.one .weak) (.cons TVW.refl1 .nil));refine QH QB call10 func10 rfl ntmps10 results10 (by simp) (by decide) ?_;unfold xT at hB;generalize lF 2 (-5)=F1 at *
   generalize lF (-2) 3=F2 at *
   generalize lF 2 (-1)=F3 at *
   generalize lF (-2) 1=F4 at *
   generalize lF 1 0=F5 at *
   simp only[go_sem];((repeat(refine Q3 0 rfl ?_;simp only[go_sem]));refine Q2 (f1) rfl ?_;simp only[go_sem];(repeat(refine Q3 0 rfl ?_;simp only[go_sem]));refine Q2 (f2) rfl ?_;simp only[go_sem];(repeat(refine Q3 0 rfl ?_;simp only[go_sem]));refine Q2 (hA) rfl ?_;simp only[go_sem];(repeat(refine Q3 0 rfl ?_;simp only[go_sem]));refine Q2 (f3) rfl ?_;simp only[go_sem];(repeat(refine Q3 0 rfl ?_;simp only[go_sem]));refine Q2 (f4) rfl ?_;simp only[go_sem];(repeat(refine Q3 0 rfl ?_;simp only[go_sem]));refine Q2 (hB) rfl ?_;simp only[go_sem];(repeat(refine Q3 0 rfl ?_;simp only[go_sem]));refine Q2 (f5) rfl ?_;simp only[go_sem];(repeat(refine Q3 0 rfl ?_;simp only[go_sem]));refine Q2 (f3) rfl ?_;simp only[go_sem];(repeat(refine Q3 0 rfl ?_;simp only[go_sem]));refine Q2 (f4) rfl ?_;simp only[go_sem];(repeat(refine Q3 0 rfl ?_;simp only[go_sem]));refine Q2 (hC) rfl ?_;simp only[go_sem];(repeat(refine Q3 0 rfl ?_;simp only[go_sem]));refine Q2 (hE) rfl ?_;simp only[go_sem];(repeat(refine Q3 0 rfl ?_;simp only[go_sem]));refine Q2 (o1) rfl ?_;simp only[go_sem];(repeat(refine Q3 0 rfl ?_;simp only[go_sem]));refine Q2 (q1) rfl ?_;simp only[go_sem];(repeat(refine Q3 0 rfl ?_;simp only[go_sem])))
theorem zfq(a b k:Int)(p:Nat->Int):atF (foJ k (fun j=>[a,b].getD j 0) 0 2) p=k+a*p 0+b*p 1:=by
 rw[zhI];show k+(0+a*p 0+b*p 1)=_;omega
theorem zfr{a b k:Int}(ha : -1000000000<a/\a<1000000000)(hb : -1000000000<b/\b<1000000000)(hk : -1000000000<k/\k<1000000000):Fv 2 1 1 (foJ k (fun j=>[a,b].getD j 0) 0 2) :=
 zjl (ZQ (by omega)) (fun j hj=>by
  have h:j=0\/j=1:=by omega
  rcases h with rfl|rfl
  .show lN a<=1;exact ZQ (by omega)
  .show lN b<=1;exact ZQ (by omega)) 2 (Qd _)
theorem zfc{a b k:Int}(ha : -1000000000<a/\a<1000000000)(hb : -1000000000<b/\b<1000000000)(hk : -1000000000<k/\k<1000000000):Q7 prog 20 [.one (.seq (some false) [[.lit (.int .i64 a)],[.lit (.int .i64 b)]]),tI .i64 k] (eF (foJ k (fun j=>[a,b].getD j 0) 0 2)) :=
 (zy2 [a,b] k (by simp) (Qs.2 ⟨ha,Qs.2 ⟨hb,fun x hx=>by cases hx⟩⟩) hk).tw (.cons (.one .weak) (.cons TVW.refl1 .nil))
theorem zkk{f g:Fm}{n:Nat}(hn:n<=4)(hf:Fv n 1 1 f)(hg:Fv n 1 1 g) :
  (∃ p,Sat [f,g] p/\(∀ v,v<n->lN (p v)<=840000000)/\Q7 prog 13 [.one (.seq (some false) [cF f,cF g]),tI .i64 n] (.tup [.one (eL cJ (fnG n p)),tB true,tI .i64 0])/\Q7 prog 15 [.one (.seq (some false) [cF f,cF g]),.one (eL cJ (fnG n p))] (tB true)) \/
  ((∀ p,¬Sat [f,g] p)/\Q7 prog 13 [.one (.seq (some false) [cF f,cF g]),tI .i64 n] (.tup [.one (.seq (some true) []),tB false,tI .i64 0])):=by
 have hm:∀ x∈[f,g],Fv n 1 1 x:=Qs.2 ⟨hf,Qs.2 ⟨hg,fun x hx=>by cases hx⟩⟩;obtain⟨o,h1,h2⟩:=zfx [f,g] hn (by simp) hm;have h2:=h2.tw (tvs':=[.one (.seq (some false) [cF f,cF g]),tI .i64 n]) (.cons (.one .weak) (.cons TVW.refl1 .nil));cases o with
 |none=>exact .inr ⟨h1,h2⟩
 |some p =>
  have h3:=(zbT (zmE [f,g] hn (by simp) hm p h1.2) h1.1).tw (tvs':=[.one (.seq (some false) [cF f,cF g]),.one (eL cJ (fnG n p))]) (.cons (.one .weak) (.cons TVW.refl1 .nil));exact .inl ⟨p,h1.1,h1.2,h2,h3⟩
end Go.Proofs.YtlgjjcmljmjenaaGreat
