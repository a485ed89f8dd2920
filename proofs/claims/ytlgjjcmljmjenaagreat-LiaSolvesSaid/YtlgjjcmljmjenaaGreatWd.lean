/- At every input the call answers true and leaves its arguments as they were; no conditions. -/
import Derived.Test.YtlgjjcmljmjenaaGreatWc
import Derived.Test.YtlgjjcmljmjenaaGreatDc
import Derived.Test.YtlgjjcmljmjenaaGreatHc
set_option linter.unusedSimpArgs false
set_option linter.unusedVariables false
set_option maxRecDepth 100000
set_option maxHeartbeats 64000000
namespace Go.Proofs.YtlgjjcmljmjenaaGreat
open Go Go.Abs Go.Proofs.Tryz
@[go_sem] theorem zDV{α:Type}{f:α->List Go.Abs.T}{xs:List α}{o:Option (List Go.Abs.C)}{b sz len:Nat}{x:Go.Abs.T}:(ZM f xs o).map (fun cs=>cs.map (fC b sz len x))=ZM f xs (o.map (fun cs=>cs.map (fC b sz len x))):=by
 cases xs with
 |nil=>rfl
 |cons y xs=>simp only[ZM,wcD,Q5,wac];rfl
attribute [go_sem] zha zg6
theorem zqF{n:Nat}{g:Nat->Int}:eL cJ (fnG n g)=eL cI (fnG n fun j=>Ys (g j)):=by
 unfold eL fnG;rw[wac,wac];rfl
theorem zvf{n:Nat}{g:Nat->Int}:TreeOf (Q5 cJ (fnG n g)) 2 n (eL cI (fnG n fun j=>Ys (g j))):=by
 have:=Yl (f:=cJ) (xs:=fnG n g) Ye
 rwa[Zc,zqF]at this
theorem zyk(ev:List Fm):eL cJ (ev.map fun e=>-e.2)=eL cI (evB ev):=by
 unfold eL evB;rw[wac,wac];rfl
theorem zvg{n:Nat}{ev:List Fm}{i:Nat}(h:i<ev.length):evA n (ev.take (i+1))=evA n (ev.take i)++[fnG n fun j=>Ys (coM ev[i].1 j)]:=by
 unfold evA;rw[Zd h,waG];rfl
theorem ztH{ev:List Fm}{i:Nat}(h:i<ev.length):(ev.take (i+1)).map (fun e=>-e.2)=(ev.take i).map (fun e=>-e.2)++[-(ev[i].2)]:=by
 rw[Zd h,waG];rfl
theorem zlN{x:Int}{u:Nat->Int}{k m:Nat}(n:Nat)(h:m<=n):∀ q∈(foJ x u k m).1,q.1<n:=fun q hq=>by
 have h1:=zhA (x:=x) (u:=u) (k:=k) q.1 m;have h2:=zpE (zeD (x:=x) (u:=u) (k:=k) m) hq;rw[h2]at h1;refine waD fun c=>?_
 rw[Qb (by omega)]at h1;exact(WM.mem (zeD m) _ hq).2 h1
theorem zpD{x:Int}{u:Nat->Int}{k n X U:Nat}(hx:lN x<=X)(hu:∀ j,j<n->lN (u (k+j))<=U)(m:Nat)(hm:m<=n):Fv n U X (foJ x u k m) where
 wf:=zeD m
 lt:=zlN n hm
 co:=fun q hq=>by
  have h1:=zhA (x:=x) (u:=u) (k:=k) q.1 m;rw[zpE (zeD m) hq]at h1;have h3:=zlN m (Qd _) q hq;rw[h1,Qc h3];exact hu _ (by omega)
 ko:=by
  have h1:=zjA (x:=x) (u:=u) (k:=k) (fun _=>0) m;have h2:atF (foJ x u k m) (fun _=>0)=(foJ x u k m).2+atM (foJ x u k m).1 fun _=>0:=rfl
  rw[zjk (zeD m) (zlN m (Qd _)),zcv fun v _=>waF _]at h2;rw[zcv fun v _=>waF _]at h1;rw[show(foJ x u k m).2=x by omega];exact hx
theorem zvh:∀ n:Nat,WeakL (Zg n [Abs.C.t (.seq (some true) []),Abs.C.t (.lit (.bool false)),Abs.C.t (.seq (some true) [])]) (Q5 cF (fnG n fun _=>(([],0):Fm))):=by
 intro n;have e:∀ n,fnG n (fun _=>(([],0):Fm))=List.replicate n ([],0):=fun n=>by unfold fnG;rw[wdt];simp
 rw[e]
 induction n with
 |zero=>exact .nil
 |succ n ih =>
  unfold Zg at ih ⊢;rw[wbp,wbp,wbx,zcq];exact .cons .seq (.cons .refl (.cons (by show WeakC _ (.t (eN (dig 0)));rw[Zi];exact .seq) ih))
theorem zqG{n:Nat}{g:Nat->Fm}{i:Nat}(hi:i<n){q:Fm}:(Q5 cF (fnG n g)).take (i*3)++Abs.C.t (eL cMn q.1)::Abs.C.t (.lit (.bool (decide (q.2<0))))::Abs.C.t (eN (dig q.2.natAbs))::(Q5 cF (fnG n g)).drop (i*3+3)=Q5 cF (fnG n (fun v=>if v=i then q else g v)):=by
 have:=zgl (f:=cF) (sz:=3) ZB hi (g:=g) (y:=q);rw[<-this];simp[Yh,cF]
theorem ziS{n:Nat}{g:Nat->Fm}:(Q5 cF (fnG n g)).length=n*3:=zbm ZB
theorem ztI{m:Nat}{f:FuncId}{ys:List AV}{args:List TV}{n kx:Nat}{u:Go.Abs.T}{p:Nat->Int}{σ:St}{K:AV->St->Prop}(hm:m=1\/m=2)(h:zbX prog f args (QB (zdo n (some p))) (.tup [.one (.vec 102 2 0 n),.one (.t u),litI .i64 kx,.one (.t (.seq (some true) [])),QO true]))(YY:ys=args.map emb)(hn:σ.H 900000=none)
  (hK:K (.tup [.one (.vec 900000 2 0 n),.one (.t u),litI .i64 kx,.one (.t (.seq (some true) [])),QO true]) (σ.withH (upd σ.H 900000 (some (Q5 cJ (fnG n p)))))):ZK prog m f ys σ K:=by
 refine zfb (H':=upd σ.H 900000 (some (Q5 cJ (fnG n p)))) (fun _=>900000) hm h YY (fun b hb=>⟨hn,by decide⟩) (fun b b' h1 h2 _=>(ziM b h1).trans (ziM b' h2).symm) (fun b cs hb=>?_) (fun x hb=>?_) hK
 .obtain rfl:=ziM b (by rw[hb];simp)
  have hb:some (Q5 cJ (fnG n p))=some cs:=hb;cases hb
  show(if 900000=900000 then some _ else _)=_;rw[Qc rfl];congr 1;unfold Q5;rw[wac];rfl
 .have:x≠900000:=fun e=>hb 102 (by show(if 102=102 then _ else _)≠none;simp) e.symm
  show(if x=900000 then _ else _)=_;rw[Qb this]
theorem ztJ{m:Nat}{f:FuncId}{ys:List AV}{args:List TV}{n:Nat}{w:Go.Abs.T}{σ:St}{K:AV->St->Prop}(hm:m=1\/m=2)(h:zbX prog f args (QB (zdo n none)) (.tup [.one (.t (.seq (some true) [])),.one (.t (.seq (some true) [])),litI .i64 0,.one (.t w),QO false]))(YY:ys=args.map emb)
  (hK:K (.tup [.one (.t (.seq (some true) [])),.one (.t (.seq (some true) [])),litI .i64 0,.one (.t w),QO false]) (σ.withH σ.H)):ZK prog m f ys σ K :=
 zfb (H':=σ.H) id hm h YY (fun b hb=>(hb rfl).elim) (fun b b' h1 _ _=>(h1 rfl).elim) (fun b cs hb=>by cases hb) (fun x _=>rfl) hK
def eqS(ls:List Fm)(n:Nat)(ev:List Fm)(R i:Nat):St:=if i=R then stL 188 [(1,.one (.ptr 1 0)),(4,.one (.t (eW (evA n ev)))),(5,.one (.t (eL cI (evB ev)))),(29,.one (.t (eL cF ev))),(30,litI .i64 R),(31,litI .i64 i)] [(1,(sN ls n ev).map .t)]
 else stL 188 [(1,.one (.ptr 1 0)),(4,zaf 1000 1 (evA n (ev.take i))),(5,zaf 1001 2 ((ev.take i).map fun e=>-e.2)),(29,.one (.t (eL cF ev))),(30,litI .i64 R),(31,litI .i64 i)]
  (Zb 1000 cMw (evA n (ev.take i))++(Zb 1001 cJ ((ev.take i).map fun e=>-e.2)++[(1,(sN ls n ev).map .t)]))
theorem zqH(T ev:List Fm){n L k UB XB B R:Nat}{X:Nat->Int}{u:Nat->Nat->Int}{fo:Nat->Fm}{NX:List Fm}{why:Go.Abs.T}{o:Option (Nat->Int)}(hR:R=ev.length)(hn:n<=4)(hL:L<=500000000)(Nm:T.length<=8000)(EC:T≠[])(Y1:ev.length<=8000)(Gb:ev≠[])(hT:∀ f∈T,Fv n L L f)(he:∀ f∈ev,Fv n L L f)
  (hU:UB<=500000000) (SJ:XB<=1000000000) (hB:B<=3000000000) (hX:∀ i,i<n->lN (X i)<=XB) (hu:∀ i j,i<n->j<n->lN (u i j)<=UB) (XQ:k<=n) (JZ:∀ i,fo i=foJ (X i) (u i) k (n-k)) (Nn:NX=T.map fun c=>nwL fo c.2 c.1)
  (Xn:(zbX prog 83 [.one (eW (evA n ev)),.one (eL cI (evB ev)),tI .i64 n] (QB (zdo n none)) (.tup [.one (.t (.seq (some true) [])),.one (.t (.seq (some true) [])),litI .i64 0,.one (.t why),QO false])/\o=none) \/
   (zbX prog 83 [.one (eW (evA n ev)),.one (eL cI (evB ev)),tI .i64 n] (QB (zdo n (some X))) (.tup [.one (.vec 102 2 0 n),.one (.t (eW (Zw n n u))),litI .i64 k,.one (.t (.seq (some true) [])),QO true]) /\
    ∃ o',SoC 31 [.agg (sS NX (n-k))] (n-k) o'/\(∀ y,o'=some y->∀ v,v<n-k->lN (y v)<=B)/\o=o'.map fun y v=>atF (fo v) y)) :
  SoC 52 [.agg (sN T n ev)] n o:=by
 have Hl:∀ i,i<n->∀ m,m<=n-k->Fv (n-k) UB XB (foJ (X i) (u i) k m):=fun i hi m hm=>zpD (hX i hi) (fun j hj=>hu i (k+j) hi (by omega)) m hm
 obtain⟨R,hR⟩:∃ R,R=ev.length:=⟨_,rfl⟩
 have Vp:0<R:=by rw[hR];exact wa6.2 Gb
 refine zcp QC call52 func52 rfl ntmps52 results52 (by simp) (by decide) ?_ ?_ ?_
 .exact zby
 .exact zdM
 simp only[go_sem];refine QK (eqS T n ev R) (fun i=>i<=R) (fun i=>R-i) 0 ?_ (Qk _) ?_
 .unfold eqS
  rw[Qb (by omega),wao,show evA n []=[]from rfl,waH,hR]
  (refine Q7 rfl ?_ ?_ ?_ ?_<;>(try simp only[go_sem])<;>(try simp))
 .intro i hi
  by_cases Dd:i=R
  .subst Dd
   clear hi;unfold eqS;rw[Qc rfl];have R5:((i:Int)<(i:Int))=False:=Ql (by omega);rcases Xn with⟨ED,rfl⟩|⟨ED,o',hs,LZ,rfl⟩
   .simp only[go_sem,R5]
    refine ztJ (.inr rfl) ED rfl ?_;simp only[go_sem];exact zbo rfl rfl (fun b cs hb=>by cases hb)
   simp only[go_sem,R5];refine ztI (.inr rfl) ED rfl (by simp only[go_sem]<;>rfl) ?_;have Xl:((0:Int)<=(n:Int))=True:=Qf (by omega);simp only[go_sem,Xl]
   (repeat(refine Qg (by omega) ?_))
   refine QK (fun i:Nat=>stL 188 [(1,.one (.ptr 1 0)),(11,.one (.vec 900000 2 0 n)),(12,.one (.t (eW (Zw n n u)))),(13,litI .i64 k),(16,.one (.vec 81 3 0 n)),(82,.one (.vec 81 3 0 n)),(83,litI .i64 n),(84,litI .i64 i)]
     [(1,(sN T n ev).map .t),(900000,Q5 cJ (fnG n X)),(81,Q5 cF (fnG n fun v=>if v<i then fo v else([],0)))]) (fun i=>i<=n) (fun i=>n-i) 0 ?_ (Qk _) ?_
   .refine GStep.trans (zar 81 (cs:=Zg n [Abs.C.t (.seq (some true) []),Abs.C.t (.lit (.bool false)),Abs.C.t (.seq (some true) [])]) (by simp only[go_sem]<;>rfl) (zvh n)) ?_
    rw[show(fun v=>if v<0 then fo v else(([],0):Fm))=fun _=>([],0)from funext fun v=>Qb (by omega)]
    (refine Q7 rfl ?_ ?_ ?_ ?_<;>(try simp only[go_sem,QH])<;>(try simp))
   .intro i hi
    simp only[go_sem];refine QI (fun Yw=>?_) (fun YG=>?_)
    .have Yv:i<n:=by omega
     have exX:=Z1 (f:=cJ) Ye Yv (g:=X);have clX:=zaB (n:=n) (g:=X);have SK:=hX i Yv;have o1:=zeR (X i) (by omega);have XG:((i:Int)<(n:Int))=True:=Qf (by omega);obtain⟨row,YE⟩:∃ row:List RI,row=fnG n fun c=>Ys (u i c):=⟨_,rfl⟩
     have er:QM cMw (Zw n n u) i=cMw row:=by rw[YE];unfold Zw;exact zdf Yv
     have YT:row.length=n:=by rw[YE,Zc]
     have erl:(Zw n n u).length=n:=zah;obtain⟨Gf,EE⟩:∃ Gf:Nat->Nat->Fm,Gf=fun q v=>if v=i then foJ (X i) (u i) k (q-k)else if v<i then fo v else([],0):=⟨_,rfl⟩
     have clG:=fun q=>ziS (n:=n) (g:=Gf q)
     have clG0:=ziS (n:=n) (g:=fun v=>if v<i then fo v else(([],0):Fm));have sd0:=zqG Yv (g:=fun v=>if v<i then fo v else(([],0):Fm)) (q:=Ze (X i));have e0:(fun v=>if v=i then Ze (X i)else if v<i then fo v else(([],0):Fm))=Gf k:=by
      rw[EE];funext v;show _=if v=i then foJ (X i) (u i) k (k-k)else _
      rw[wbl];rfl
     rw[e0]at sd0;have Pa:(fun v=>if v<i+1 then fo v else(([],0):Fm))=Gf n:=by
      rw[EE];funext v;show _=if v=i then foJ (X i) (u i) k (n-k)else _
      by_cases c:v=i
      .rw[Qc c,Qc (by omega),JZ,c]
      .rw[Qb c]
       by_cases c2:v<i
       .rw[Qc c2,Qc (by omega)]
       .rw[Qb c2,Qb (by omega)]
     have Pb:∀ q,Gf q i=foJ (X i) (u i) k (q-k):=fun q=>by rw[EE];exact Qc rfl
     have Ma:∀ q (f:Fm),f=foJ (X i) (u i) k (q+1-k)->(fun v=>if v=i then f else Gf q v)=Gf (q+1):=fun q f h=>by
      rw[EE];funext v;show(if v=i then f else if v=i then _ else _)=if v=i then foJ (X i) (u i) k (q+1-k)else _
      by_cases c:v=i
      .rw[Qc c,Qc c,h]
      .rw[Qb c,Qb c,Qb c]
     generalize hz:Ze (X i)=z at *
     simp only[go_sem,exX,XG,cJ]
     (repeat(refine Qg (by omega) ?_))
     refine Q3 o1 rfl ?_;simp only[go_sem,clG0]
     (repeat(refine Qg (by omega) ?_))
     refine QK (fun q:Nat=>stL 188 [(1,.one (.ptr 1 0)),(11,.one (.vec 900000 2 0 n)),(12,.one (.t (eW (Zw n n u)))),(13,litI .i64 k),(16,.one (.vec 81 3 0 n)),(17,litI .i64 i),(18,litI .i64 q),(82,.one (.vec 81 3 0 n)),(83,litI .i64 n),(84,litI .i64 i)]
       [(1,(sN T n ev).map .t),(900000,Q5 cJ (fnG n X)),(81,Q5 cF (fnG n (Gf q)))]) (fun q=>k<=q/\q<=n) (fun q=>n-q) k ?_ ⟨Qd _,XQ⟩ ?_
     ·(refine Q7 rfl ?_ ?_ ?_ ?_<;>(try simp only[go_sem,QH,sd0])<;>(try simp))
     .intro q hq
      simp only[go_sem];refine QI (fun YS=>?_) (fun Wt=>?_)
      .have Y2:q<n:=by omega
       have Ut:((q:Int)<(n:Int))=True:=Qf (by omega);have hw:IntKind.wrap .i64 ((q:Int)-(k:Int))=((q-k:Nat):Int):=by rw[Q6 (by omega) (by omega)];omega
       have oV:Q9 prog 87 [tI .i64 ((q-k:Nat):Int)] (eF (Z7 (q-k))):=by
        have:=zre ((q-k:Nat):Int) (by omega) (by omega)
        rwa[wbD]at this
       have fv:Fv (n-k) 1 0 (Z7 (q-k)):=Fv.var (by omega);have Pc:=hu i q Yv Y2;have oS:=zeS fv (by omega) (by omega) (c:=u i q) (by omega);have fs:=fv.sc (c:=u i q) Pc;have f1:=Hl i Yv (q-k) (by omega);have oA:=ze7 f1 fs (by omega) (by omega);have exF:=Z1 (f:=cF) ZB Yv (g:=Gf q);rw[Pb]at exF;have ee:QM cI row q=[.lit (.bool (decide (u i q<0))),eN (dig (u i q).natAbs)]:=by rw[YE];exact zdf Y2
       have UO:(∀ x∈row,(cI x).length=2)=True:=Qf fun x _=>rfl
       have Ra:((0:Int)<=(q:Int))=True:=Qf (by omega);have eu:eI (u i q) = .agg (cI (Ys (u i q))):=rfl;have UL:=Ma q (QP (foJ (X i) (u i) k (q-k)) (scF (Z7 (q-k)) (u i q))) (by
        rw[show q+1-k=(q-k)+1 by omega];show _=QP _ (scF _ (u i (k+(q-k))));rw[show k+(q-k)=q by omega])
       have sd:=zqG Yv (g:=Gf q) (q:=QP (foJ (X i) (u i) k (q-k)) (scF (Z7 (q-k)) (u i q)));rw[UL]at sd;have clq:=clG q;clear fv fs f1 UL Ma;generalize QP (foJ (X i) (u i) k (q-k)) (scF (Z7 (q-k)) (u i q))=g3 at *
       generalize foJ (X i) (u i) k (q-k)=g1 at *
       generalize scF (Z7 (q-k)) (u i q)=g2 at *
       generalize Z7 (q-k)=g0 at *
       simp only[go_sem,YS];refine Q4 0 rfl ?_;simp only[go_sem,exF,XG,hw]
       (repeat(refine Qg (by omega) ?_))
       refine Q3 oV rfl ?_;simp only[go_sem,er,ee,erl,YT,XG,Ut,UO,Ra]
       (repeat(refine Qg (by omega) ?_))
       refine Q3 oS rfl ?_;simp only[go_sem]
       (repeat(refine Qg (by omega) ?_))
       refine Q3 oA rfl ?_;simp only[go_sem,XG,clq,sd]
       (repeat(refine Qg (by omega) ?_))
       refine⟨q+1,⟨by omega,Y2⟩,(by show n-(q+1)<n-q;omega),?_⟩
       (refine Q7 rfl ?_ ?_ ?_ ?_<;>(try simp only[go_sem,QH,Q6 (n:=(q:Int)+1) (by omega) (by omega)])<;>(try simp))
      .obtain rfl:q=n:=by omega
       simp only[go_sem];refine⟨i+1,Yv,(by show q-(i+1)<q-i;omega),?_⟩;rw[<-Pa]
       (refine Q7 rfl ?_ ?_ ?_ ?_<;>(try simp only[go_sem,QH,Q6 (n:=(i:Int)+1) (by omega) (by omega)])<;>(try simp))
    .obtain rfl:i=n:=by omega
     rw[show fnG i (fun v=>if v<i then fo v else(([],0):Fm))=fnG i fo from Yk fun v hv=>Qc hv];have Rb:∀ v,v<i->Fv (i-k) UB XB (fo v):=fun v hv=>by rw[JZ];exact Hl v hv _ (Qd _)
     have SL:NX.length=T.length:=by rw[Nn];exact Qm _
     have Pd:∀ j (h:j<T.length),NX[j]'(by omega)=nwL fo T[j].2 T[j].1:=fun j h=>by subst Nn;rw[Qq]
     have Mb:∀ c∈T,∀ m,m<=c.1.length->Fv (i-k) (UB+L+m) (max L (XB+L)+m) (nwL fo c.2 (c.1.take m)):=fun c hc m hm=>zl5 (hT c hc) (fun v hv=>Rb v hv) m hm
     have WX:IntKind.wrap .i64 ((i:Int)-(k:Int))=((i-k:Nat):Int):=by rw[Q6 (by omega) (by omega)];omega
     have Wy:0<T.length:=wa6.2 EC;obtain⟨M,hM⟩:∃ M,M=i-k:=⟨_,rfl⟩
     rw[<-hM]at hs LZ Rb Mb WX;clear Hl hX hu ED;simp only[go_sem,WX];refine QK (fun j:Nat=>if j=T.length then stL 188 [(1,.one (.ptr 1 0)),(11,.one (.vec 900000 2 0 i)),(16,.one (.vec 81 3 0 i)),(19,.one (.ptr 19 0)),(132,.one (.t (eL cF T))),(133,litI .i64 T.length),(134,litI .i64 j)] [(1,(sN T i ev).map .t),(900000,Q5 cJ (fnG i X)),(81,Q5 cF (fnG i fo)),(19,(sS NX M).map .t)]
      else stL 188 [(1,.one (.ptr 1 0)),(11,.one (.vec 900000 2 0 i)),(16,.one (.vec 81 3 0 i)),(19,.one (.ptr 19 0)),(132,.one (.t (eL cF T))),(133,litI .i64 T.length),(134,litI .i64 j)] (Zb 1002 cF (NX.take j)++[(1,(sN T i ev).map .t),(900000,Q5 cJ (fnG i X)),(81,Q5 cF (fnG i fo)),(19,[QX 1002 3 (NX.take j),.t (.lit (.int .i64 (M:Int)))])])) (fun j=>j<=T.length) (fun j=>T.length-j) 0 ?_ (Qk _) ?_
     .rw[Qb (by omega),wao]
      (refine Q7 rfl ?_ ?_ ?_ ?_<;>(try simp only[go_sem,QH])<;>(try simp))
     .intro j hj
      by_cases Mc:j=T.length
      .subst Mc
       clear hj;simp only[Qc];have R5:((T.length:Int)<(T.length:Int))=False:=Ql (by omega);cases o' with
       |none =>
        simp only[go_sem,R5];refine zdI (.inr rfl) hs rfl ?_;simp only[go_sem];exact zbo rfl rfl (fun b cs hb=>by cases hb)
       |some y =>
        have hy:=LZ y rfl;simp only[go_sem,R5];refine zdH 900001 (.inr rfl) hs rfl (by simp only[go_sem]) (by decide) ?_;simp only[go_sem];refine QK (fun v:Nat=>stL 188 [(11,.one (.vec 900000 2 0 i)),(25,.one (.vec 900001 2 0 M)),(173,.one (.vec 81 3 0 i)),(174,litI .i64 i),(175,litI .i64 v)]
          [(900000,Q5 cJ (fnG i fun w=>if w<v then atF (fo w) y else X w)),(81,Q5 cF (fnG i fo)),(900001,Q5 cJ (fnG M y))]) (fun v=>v<=i) (fun v=>i-v) 0 ?_ (Qk _) ?_
        .rw[show(fun w=>if w<0 then atF (fo w) y else X w)=X from funext fun w=>Qb (by omega)]
         (refine Q7 rfl ?_ ?_ ?_ ?_<;>(try simp only[go_sem,QH])<;>(try simp))
        .intro v hv
         simp only[go_sem];refine QI (fun Yw=>?_) (fun YG=>?_)
         .have Yv:v<i:=by omega
          have Va:((v:Int)<(i:Int))=True:=Qf (by omega);have f1:=Rb v Yv;have exF:=Z1 (f:=cF) ZB Yv (g:=fo);have clF:=ziS (n:=i) (g:=fo);have clX:=zaB (n:=i) (g:=fun w=>if w<v then atF (fo w) y else X w);have rd:=fun H (h:H 900001=some (Q5 cJ (fnG M y)))=>zlW (fo v) y 900001 (n:=M) (C:=UB) (K:=XB) (B:=B) (by omega) (by omega) (by omega) f1 hy (H:=H) h
          have sd:=zbD Yv (g:=fun w=>if w<v then atF (fo w) y else X w) (q:=atF (fo v) y);have e1:(fun w=>if w=v then atF (fo v) y else if w<v then atF (fo w) y else X w)=fun w=>if w<v+1 then atF (fo w) y else X w:=funext fun w=>by
           by_cases c:w=v
           .rw[Qc c,Qc (by omega),c]
           .rw[Qb c]
            by_cases c2:w<v
            .rw[Qc c2,Qc (by omega)]
            .rw[Qb c2,Qb (by omega)]
          rw[e1]at sd;generalize atF (fo v) y=z at *
          generalize Uz:fo v=g0 at *
          simp only[go_sem,exF,Va]
          (repeat(refine Qg (by omega) ?_))
          refine zbL (.inr rfl) (rd _ (by simp only[go_sem]<;>rfl)) ?_;simp only[go_sem,clX,Va]
          (repeat(refine Qg (by omega) ?_))
          refine⟨v+1,Yv,(by show i-(v+1)<i-v;omega),?_⟩
          (refine Q7 rfl ?_ ?_ ?_ ?_<;>(try simp only[go_sem,QH,sd,Q6 (n:=(v:Int)+1) (by omega) (by omega)])<;>(try simp))
         .obtain rfl:v=i:=by omega
          rw[show fnG v (fun w=>if w<v then atF (fo w) y else X w)=fnG v fun w=>atF (fo w) y from Yk fun w hw=>Qc hw];simp only[go_sem];exact zbo rfl rfl (zcI fun p hp=>by cases hp;simp only[go_sem]<;>rfl)
      .simp only[Qb Mc]
       have Rc:j<T.length:=by omega
       have WQ:QM cF T j=cF T[j]:=Q8 Rc;have XY:((j:Int)<(T.length:Int))=True:=Qf (by omega);have hc:=hT _ (Qh Rc);have XC:=Mb _ (Qh Rc);have Hm:=Zd (l:=NX) (i:=j) (by omega);rw[Pd j Rc]at Hm;have Pe:(NX.take j).length<=8000:=by rw[wat];omega
       have YW:=zft hc.wf hc.lt;generalize T[j]=c at *
       generalize Md:NX.take j=RA at *
       have o1:=zeR c.2 (by have:=hc.ko;omega);have clF:=ziS (n:=i) (g:=fo);simp only[go_sem,WQ,XY]
       (repeat(refine Qg (by omega) ?_))
       refine Q3 o1 rfl ?_;have e0:Ze c.2=nwL fo c.2 (c.1.take 0):=by rw[wao];rfl
       rw[e0];simp only[go_sem];refine QK (fun m:Nat=>stL 188 [(1,.one (.ptr 1 0)),(11,.one (.vec 900000 2 0 i)),(16,.one (.vec 81 3 0 i)),(19,.one (.ptr 19 0)),(22,.one (.ptr 22 0)),(132,.one (.t (eL cF T))),(133,litI .i64 T.length),(134,litI .i64 j),(142,.one (.t (eL cMn c.1))),(143,litI .i64 c.1.length),(144,litI .i64 m)]
         (Zb 1002 cF RA++[(1,(sN T i ev).map .t),(900000,Q5 cJ (fnG i X)),(81,Q5 cF (fnG i fo)),(19,[QX 1002 3 RA,.t (.lit (.int .i64 (M:Int)))]),(22,(cF (nwL fo c.2 (c.1.take m))).map .t)])) (fun m=>m<=c.1.length) (fun m=>c.1.length-m) 0 ?_ (Qk _) ?_
       ·(refine Q7 rfl ?_ ?_ ?_ ?_<;>(try simp only[go_sem,QH])<;>(try simp))
       .intro m hm
        simp only[go_sem];refine QI (fun Hn=>?_) (fun Pf=>?_)
        .have UP:m<c.1.length:=by omega
         have Ho:QM cMn c.1 m=cMn c.1[m]:=Q8 UP;have GZ:=hc.lt _ (Qh UP);have Pg:=hc.co _ (Qh UP);have f1:=XC m (by omega);have Vc:nwL fo c.2 (c.1.take (m+1))=QP (nwL fo c.2 (c.1.take m)) (scF (fo c.1[m].1) c.1[m].2):=by rw[Zd UP,zoN]
         generalize c.1[m]=q at *
         have f2:=Rb _ GZ;have oS:=zeS f2 (by omega) (by omega) (c:=q.2) (by omega);have oA:=ze7 f1 (f2.sc Pg) (by omega) (by omega);have exF:=Z1 (f:=cF) ZB GZ (g:=fo);have Ut:((q.1:Int)<(i:Int))=True:=Qf (by omega);have Me:((0:Int)<=(q.1:Int))=True:=Qf (by omega);rw[<-Vc]at oA;clear f1 f2 Vc;generalize Ph:nwL fo c.2 (c.1.take (m+1))=g3 at *
         generalize nwL fo c.2 (c.1.take m)=g1 at *
         generalize Kn:scF (fo q.1) q.2=g2 at *
         generalize Uz:fo q.1=g0 at *
         simp only[go_sem,Ho,Hn]
         (repeat(refine Qg (by omega) ?_))
         refine Q4 0 rfl ?_;simp only[go_sem,exF,Ut,Me]
         (repeat(refine Qg (by omega) ?_))
         refine Q3 oS rfl ?_;simp only[go_sem]
         (repeat(refine Qg (by omega) ?_))
         refine Q3 oA rfl ?_;simp only[go_sem];refine⟨m+1,UP,(by show c.1.length-(m+1)<c.1.length-m;omega),?_⟩
         (refine Q7 rfl ?_ ?_ ?_ ?_<;>(try simp only[go_sem,QH,Ph,Q6 (n:=(m:Int)+1) (by omega) (by omega)])<;>(try simp))
        .obtain rfl:m=c.1.length:=by omega
         rw[Q1]at *
         generalize SM:nwL fo c.2 c.1=cN at *
         simp only[go_sem];refine ZC (sz:=3) (bytes:=56) (by simp only[go_sem,QV]<;>decide) ZB RA [cN] (b:=1002) (by simp only[go_sem]<;>rfl) (by simp only[go_sem]<;>rfl) (by simp only[go_sem]<;>rfl) rfl (by simp) (by simp only[Qe,Qi]at *;omega) (by decide) ?_;simp only[go_sem];refine⟨j+1,by omega,(by show T.length-(j+1)<T.length-j;omega),?_⟩;by_cases e3:j+1=T.length
         .have eN2:NX=RA++[cN]:=by rw[<-Hm,waL (by omega)]
          have EF:QX 1002 3 (RA++[cN])=Go.Abs.C.vec 1002 3 0 (RA++[cN]).length:=by cases RA<;>rfl
          have De:∀ o,ZM cF (RA++[cN]) o=some (Q5 cF (RA++[cN])):=fun o=>by cases RA<;>rfl
          simp only[Qc e3];rw[eN2];generalize RA++[cN]=RA2 at *
          refine GStep.trans (zbu (b:=1002) (sz:=3) (len:=RA2.length) (by simp only[go_sem]<;>rfl) (Yl ZB)) ?_
          (refine Q7 rfl ?_ ?_ ?_ ?_<;>(try simp only[go_sem,QH,EF,Q6 (n:=(j:Int)+1) (by omega) (by omega)])<;>(try simp))
         .simp only[Qb e3]
          (refine Q7 rfl ?_ ?_ ?_ ?_<;>(try simp only[go_sem,QH,Hm,Q6 (n:=(j:Int)+1) (by omega) (by omega)])<;>(try simp))
  .unfold eqS
   simp only[Qb Dd];have Yv:i<ev.length:=by omega
   have Uw:((i:Int)<(R:Int))=True:=Qf (by omega);have Y1:QM cF ev i=cF ev[i]:=Q8 Yv;have hf:=he _ (Qh Yv);have Ju:=zvg (n:=n) Yv;have Mf:=ztH Yv;have Pi:(evA n (ev.take i)).length<=8000:=by rw[zcJ,wat];omega
   have SN:((ev.take i).map fun e=>-e.2).length<=8000:=by rw[Qm,wat];omega
   have Xl:((0:Int)<=(n:Int))=True:=Qf (by omega);generalize Md:evA n (ev.take i)=RA at *
   generalize SO:(ev.take i).map (fun e=>-e.2)=RB at *
   generalize ev[i]=e at *
   obtain⟨ROW,Df⟩:∃ ROW:List RI,ROW=fnG n fun j=>Ys (coM e.1 j):=⟨_,rfl⟩
   have XA:IntKind.wrap .i64 ((i:Int)+1)=((i+1:Nat):Int):=by rw[Q6 (by omega) (by omega)];omega
   obtain⟨CM,Uu⟩:∃ CM,CM=stL 188 [(1,.one (.ptr 1 0)),(4,zaf 1000 1 (RA++[ROW])),(5,zaf 1001 2 (RB++[-(e.2)])),(29,.one (.t (eL cF ev))),(30,litI .i64 R),(31,litI .i64 (i+1:Nat))]
    (Zb 1000 cMw (RA++[ROW])++(Zb 1001 cJ (RB++[-(e.2)])++[(1,(sN T n ev).map .t)])):=⟨_,rfl⟩
   rw[<-Df]at Ju;have Y5:Go.Abs.GStep CM (eqS T n ev R (i+1)):=by
    unfold eqS;by_cases e2:i+1=R
    .rw[Qc e2,Uu]
     have eA:evA n ev=RA++[ROW]:=by rw[<-Ju,waL (by omega)]
     have eB:eL cI (evB ev)=eL cJ (RB++[-(e.2)]):=by rw[<-zyk,<-Mf,waL (by omega)]
     rw[eA,eB];have Pj:QX 1000 1 (RA++[ROW])=Go.Abs.C.vec 1000 1 0 (RA++[ROW]).length:=by cases RA<;>rfl
     have Pk:QX 1001 2 (RB++[-(e.2)])=Go.Abs.C.vec 1001 2 0 (RB++[-(e.2)]).length:=by cases RB<;>rfl
     have Hp:∀ o,ZM cMw (RA++[ROW]) o=some (Q5 cMw (RA++[ROW])):=fun o=>by cases RA<;>rfl
     have Mg:∀ o,ZM cJ (RB++[-(e.2)]) o=some (Q5 cJ (RB++[-(e.2)])):=fun o=>by cases RB<;>rfl
     generalize RA++[ROW]=RA2 at *
     generalize RB++[-(e.2)]=RB2 at *
     refine GStep.trans (zbu (b:=1000) (sz:=1) (len:=RA2.length) (by simp only[go_sem,Hp]<;>rfl) (Yl zjj)) ?_;refine GStep.trans (zbu (b:=1001) (sz:=2) (len:=RB2.length) (by simp only[go_sem,Hp,Mg]<;>rfl) (Yl Ye)) ?_
     (refine Q7 rfl ?_ ?_ ?_ ?_<;>(try simp only[go_sem,Pj,Pk,Hp,Mg])<;>(try simp))
    .rw[Qb e2,Uu]
     (refine Q7 rfl ?_ ?_ ?_ ?_<;>(try simp only[go_sem,Ju,Mf])<;>(try simp))
   have oN:=zbO e.2 (by have:=hf.ko;omega);simp only[go_sem,Y1,Uw,Xl]
   (repeat(refine Qg (by omega) ?_))
   refine QK (fun j:Nat=>stL 188 [(1,.one (.ptr 1 0)),(4,zaf 1000 1 RA),(5,zaf 1001 2 RB),(7,.one (.ptr 7 0)),(8,.one (.vec 38 2 0 n)),(29,.one (.t (eL cF ev))),(30,litI .i64 R),(31,litI .i64 i),(40,.one (.t (eL cMn e.1))),(41,litI .i64 e.1.length),(42,litI .i64 j)]
     (Zb 1000 cMw RA++(Zb 1001 cJ RB++[(1,(sN T n ev).map .t),(7,(cF e).map .t),(38,Q5 cJ (fnG n (coM (e.1.take j))))]))) (fun j=>j<=e.1.length) (fun j=>e.1.length-j) 0 ?_ (Qk _) ?_
   .refine GStep.trans (zar 38 (cs:=Zg n [Abs.C.t (Abs.T.lit (Value.bool false)),Abs.C.t (Abs.T.seq (some true) [])]) (by simp only[go_sem]<;>rfl) (zeZ n)) ?_
    rw[wao,show coM []=fun _=>0 from rfl]
    (refine Q7 rfl ?_ ?_ ?_ ?_<;>(try simp only[go_sem,QH])<;>(try simp))
   .intro j hj
    simp only[go_sem];refine QI (fun YS=>?_) (fun Wt=>?_)
    .have Y2:j<e.1.length:=by omega
     have YI:QM cMn e.1 j=cMn e.1[j]:=Q8 Y2;have FK:=hf.lt _ (Qh Y2);have JA:=zft hf.wf hf.lt;have VK:=fun v=>zoH hf.wf Y2 v
     have cl:=zaB (n:=n) (g:=coM (e.1.take j));have sd:=zbD (n:=n) (g:=coM (e.1.take j)) FK (q:=e.1[j].2);have sde:fnG n (fun v=>if v=e.1[j].1 then e.1[j].2 else coM (e.1.take j) v)=fnG n (coM (e.1.take (j+1))):=Yk fun v _=>(VK v).symm
     rw[sde]at sd;generalize e.1[j]=q at *
     have WR:((0:Int)<=(q.1:Int))=True:=Qf (by omega);have X6:((q.1:Int)<(n:Int))=True:=Qf (by omega);simp only[go_sem,YI,YS,WR,X6,cl,sd]
     (repeat(refine Qg (by omega) ?_))
     refine⟨j+1,Y2,(by show e.1.length-(j+1)<e.1.length-j;omega),?_⟩
     (refine Q7 rfl ?_ ?_ ?_ ?_<;>(try simp only[go_sem,QH,Q6 (n:=(j:Int)+1) (by omega) (by omega)])<;>(try simp))
    .obtain rfl:j=e.1.length:=by omega
     rw[Q1];simp only[go_sem];refine zqy (zbu (b:=38) (sz:=2) (len:=n) (by simp only[go_sem]<;>rfl) (Df▸zvf)) ?_;refine zdG 12 rfl ?_;refine QN.take' 0 rfl (by decide +kernel) (by decide +kernel) (by decide +kernel) (by simp only[go_sem]) (zdx rfl) ?_;refine QN.take' 1 rfl (by decide +kernel) (by decide +kernel) (by decide +kernel) (by simp only[go_sem]) (zdx rfl) ?_;refine QN.take' 4 rfl (by decide +kernel) (by decide +kernel) (by decide +kernel) (by simp only[go_sem]) (zdx rfl) ?_;refine QN.take' 5 rfl (by decide +kernel) (by decide +kernel) (by decide +kernel) (by simp only[go_sem]) (zj0 rfl (by simp only[go_sem]) (by simp only[go_sem]) (by simp only[go_sem]) (by simp only[go_sem]) (by simp only[go_sem]) (by simp only[go_sem])) ?_
     (try simp only[go_sem])
     refine QN.two' 2 6 (by decide +kernel) rfl rfl (by simp only[go_sem]) (by simp only[go_sem]) ?_ ?_
     ·(try simp only[go_sem])
      refine QN.two' 3 6 (by decide +kernel) rfl rfl (by simp only[go_sem]) (by simp only[go_sem]) ?_ ?_
      .simp only[go_sem]
       refine ZC (sz:=1) (bytes:=24) (by simp only[go_sem,QV]<;>decide) zjj RA [ROW] (b:=1000) (by simp only[go_sem]<;>rfl) (by simp only[go_sem]<;>rfl) (by simp only[go_sem]<;>rfl) rfl (by simp) (by simp only[Qe,Qi]at *;omega) (by decide) ?_
       (try simp only[go_sem])
       refine QN.ord [0,1,2,3,4,5] 0 [6,7,8,9,10,11] (by decide +kernel) (by decide +kernel) (by decide +kernel) (by decide +kernel) (by decide +kernel) (by decide) ?_;simp only[Zn,wbj,wbk,wa2,wa7,wa3];simp only[go_sem];refine Q3 oN rfl ?_
       (try simp only[go_sem])
       refine ZC (sz:=2) (bytes:=32) (by simp only[go_sem,QV]<;>decide) Ye RB [-(e.2)] (b:=1001) (by simp only[go_sem]<;>rfl) (by simp only[go_sem]<;>rfl) (by simp only[go_sem]<;>rfl) rfl (by simp) (by simp only[Qe,Qi]at *;omega) (by decide) ?_
       (try simp only[go_sem])
       refine⟨i+1,by omega,(by show R-(i+1)<R-i;omega),GStep.trans (σ₁:=CM) ?_ Y5⟩;rw[Uu]
       (refine Q7 rfl ?_ ?_ ?_ ?_<;>(try simp only[go_sem,XA])<;>(try simp))
      ·(try simp only[go_sem])
       refine QN.ord [0,1,2,4,5,6] 0 [3,7,8,9,10,11] (by decide +kernel) (by decide +kernel) (by decide +kernel) (by decide +kernel) (by decide +kernel) (by decide) ?_;simp only[Zn,wbj,wbk,wa2,wa7,wa3];simp only[go_sem];refine ZC (sz:=1) (bytes:=24) (by simp only[go_sem,QV]<;>decide) zjj RA [ROW] (b:=1000) (by simp only[go_sem]<;>rfl) (by simp only[go_sem]<;>rfl) (by simp only[go_sem]<;>rfl) rfl (by simp) (by simp only[Qe,Qi]at *;omega) (by decide) ?_
       (try simp only[go_sem])
       refine Q3 oN rfl ?_
       (try simp only[go_sem])
       refine ZC (sz:=2) (bytes:=32) (by simp only[go_sem,QV]<;>decide) Ye RB [-(e.2)] (b:=1001) (by simp only[go_sem]<;>rfl) (by simp only[go_sem]<;>rfl) (by simp only[go_sem]<;>rfl) rfl (by simp) (by simp only[Qe,Qi]at *;omega) (by decide) ?_
       (try simp only[go_sem])
       refine⟨i+1,by omega,(by show R-(i+1)<R-i;omega),GStep.trans (σ₁:=CM) ?_ Y5⟩;rw[Uu]
       (refine Q7 rfl ?_ ?_ ?_ ?_<;>(try simp only[go_sem,XA])<;>(try simp))
     ·(try simp only[go_sem])
      refine QN.ord [0,1,4,5,6] 0 [2,3,7,8,9,10,11] (by decide +kernel) (by decide +kernel) (by decide +kernel) (by decide +kernel) (by decide +kernel) (by decide) ?_;simp only[Zn,wbj,wbk,wa2,wa7,wa3];simp only[go_sem];refine ZC (sz:=1) (bytes:=24) (by simp only[go_sem,QV]<;>decide) zjj RA [ROW] (b:=1000) (by simp only[go_sem]<;>rfl) (by simp only[go_sem]<;>rfl) (by simp only[go_sem]<;>rfl) rfl (by simp) (by simp only[Qe,Qi]at *;omega) (by decide) ?_
      (try simp only[go_sem])
      refine Q3 oN rfl ?_
      (try simp only[go_sem])
      refine ZC (sz:=2) (bytes:=32) (by simp only[go_sem,QV]<;>decide) Ye RB [-(e.2)] (b:=1001) (by simp only[go_sem]<;>rfl) (by simp only[go_sem]<;>rfl) (by simp only[go_sem]<;>rfl) rfl (by simp) (by simp only[Qe,Qi]at *;omega) (by decide) ?_
      (try simp only[go_sem])
      refine⟨i+1,by omega,(by show R-(i+1)<R-i;omega),GStep.trans (σ₁:=CM) ?_ Y5⟩;rw[Uu]
      (refine Q7 rfl ?_ ?_ ?_ ?_<;>(try simp only[go_sem,XA])<;>(try simp))
theorem zvA(T ev:List Fm){n L k ee U Y G B r:Nat}{GG:Nat->Nat->Int}(hn:n<=4)(hL:L<=500000000)(Nm:T.length<=8000)(EC:T≠[])(Y1:ev.length<=8000)(Gb:ev≠[])(hT:∀ f∈T,Fv n L L f)(YP:∀ e∈ev,e∈T)(Kt:∀ e∈ev,e.1≠[])
  (Jp:∀ p,Sat T p->∀ e∈ev,atF e p=0) (PC:∀ f∈T,Yo r GG f) (hk:k=(QF (atW (evA n ev)) n ev.length ev.length).2) (E9:ee=eeG (30*L) k) (hU:U=ee/29+1) (hY:Y=(30*L+(ee+4)*(k+1))/29+3) (hG:G=(30*Y+(ee+13)*(k+1)+13)/29+1)
  (PD:1<=k->k<=n->k<=r->U<=500000000/\G<=500000000) (hB:B<=3000000000)
  (hs:∀ NX r' GG',1<=k->k<=n->r'+k=r->NX.length=T.length->(∀ f∈NX,Fv (n-k) (U+Y+L+20) (U+Y+L+20) f)->(∀ f∈NX,Yo r' GG' f)->zbq NX (n-k) B) :
  ∃ o,(1<=k/\k<=n/\k<=r)/\zbE T n (U+Y+B+20) o/\SoC 52 [.agg (sN T n ev)] n o:=by
 have he:∀ f∈ev,Fv n L L f:=fun f hf=>hT f (YP f hf)
 obtain⟨R,hR⟩:∃ R,R=ev.length:=⟨_,rfl⟩
 have Md:(evA n ev).length=R:=by rw[zcJ,hR]
 obtain⟨S,hS⟩:∃ S,S=(QF (atW (evA n ev)) n (evA n ev).length (evA n ev).length).1:=⟨_,rfl⟩
 obtain⟨pv,VI⟩:∃ pv,pv=pvS (atW (evA n ev)) n (evA n ev).length:=⟨_,rfl⟩
 obtain⟨kk,VJ⟩:∃ kk:Nat->Nat,kk=fun r=>(QF (atW (evA n ev)) n (evA n ev).length r).2:=⟨_,rfl⟩
 have Nz:k=kk (evA n ev).length:=by rw[VJ,hk,zcJ]
 have Kg:∀ i j,(atW (evA n ev) i j).natAbs<=2^(30*L):=fun i j=>zxs he i j
 have HA:∀ r,(atR (evB ev) r).natAbs<=2^(30*L):=fun r=>zxt he r
 have hp:=zns (a:=atW (evA n ev)) (n:=n) (R:=(evA n ev).length) (e0:=30*L) (by omega) fun r c _ _=>Kg r c
 rw[<-hS,<-VI,<-VJ]at hp;have XS:InvH (atW (evA n ev)) n (evA n ev).length S:=by rw[hS];exact znp _
 obtain⟨Tb,DA,HO,DB⟩:=zgZ (zcU S pv kk (atR (evB ev))) (evA n ev).length;obtain⟨UH,FD⟩:=zwV (a:=evA n ev) (b:=evB ev) (n:=n) (e0:=30*L) Kg HA (by omega) (by rw[zcJ];exact Y1) Tb hS VI VJ Nz E9 hY hG;rw[<-hU]at UH;have Nb:=zwU (a:=evA n ev) (n:=n) (e0:=30*L) (k:=k) (by omega) Kg (by rw[Nz,VJ]);rw[<-E9,<-hU]at Nb;have Vr:1<=k:=by rw[Nz];exact zyJ (fun f hf=>⟨he f hf,Kt f hf⟩) Gb hp XS
 obtain⟨r',GG',hr,Mz⟩:=zvU (T:=T) (ev:=ev) (r:=r) (G:=GG) hT YP hp XS PC;rw[<-Nz]at hr;have XQ:k<=n:=by rw[Nz];exact(hp.shp.le _ (Qd _)).1
 obtain⟨HP,PE⟩:=PD Vr XQ (by omega);have hA:=zxW (evA n ev) (evB ev) n (K:=U) (L:=L) (B:=G) HP hL PE (by omega) (by rw[zcJ];omega) (fun row YE=>by
  unfold evA at YE;obtain⟨e,hm,rfl⟩:=Qp.1 YE;exact zlT (by omega) fun c _=>(he e hm).lco c) ⟨by unfold evB;rw[Qm];omega,fun p hp=>by
   unfold evB at hp;obtain⟨e,hm,rfl⟩:=Qp.1 hp;have:=(he e hm).ko;have h2:=Zs e.2;show(dig (-e.2).natAbs).length<=L;have h3:lN (-e.2)=(dig (-e.2).natAbs).length:=rfl;omega⟩ Nb hS VI VJ Tb DA HO DB UH
 obtain⟨X,hX⟩:∃ X,X=zfF S pv kk (atR (evB ev)) n (evA n ev).length:=⟨_,rfl⟩
 obtain⟨fo,JZ⟩:∃ fo,fo=foS S pv kk (atR (evB ev)) n (evA n ev).length:=⟨_,rfl⟩
 have Ri:∀ i,fo i=foJ (X i) (S.u i) k (n-k):=fun i=>by rw[JZ,hX,Nz];rfl
 have Ry:∀ i,i<n->lN (X i)<=U+Y+4:=fun i hi=>by
  rw[hX];have:=zju (f:=fun j=>S.u i j*ZD S pv kk (atR (evB ev)) (evA n ev).length j) (C:=U+Y) (m:=n) fun j hj=>by
   have h1:=UH.u i j hi hj;have h2:=FD _ (Qd _) j;have h3:=ZX (S.u i j) (ZD S pv kk (atR (evB ev)) (evA n ev).length j);omega
  show lN (smI _ n)<=_;omega
 have Wg:∀ i j,i<n->j<n->lN (S.u i j)<=U:=UH.u;have Rb:∀ i,i<n->Fv (n-k) U (U+Y+4) (fo i):=fun i hi=>by rw[Ri];exact zpD (Ry i hi) (fun j hj=>Wg i (k+j) hi (by omega)) _ (Qd _)
 obtain⟨NX,Nn⟩:∃ NX,NX=zhT S pv kk (atR (evB ev)) n (evA n ev).length T:=⟨_,rfl⟩
 have Rj:NX=T.map fun c=>nwL fo c.2 c.1:=by rw[Nn,JZ];rfl
 rw[<-Nn]at Mz;have PF:∀ f∈NX,Fv (n-k) (U+Y+L+20) (U+Y+L+20) f:=fun f hf=>by
  rw[Rj]at hf;obtain⟨c,hc,rfl⟩:=Qp.1 hf;have h1:=zl5 (hT c hc) Rb c.1.length (Qd _);rw[Q1]at h1;have h2:=zft (hT c hc).wf (hT c hc).lt;exact h1.mono (Qd _) (by omega) (by omega)
 have OY:Y<=G:=by rw[hG];omega
 obtain⟨o',Vo,Je⟩:=hs NX r' GG' Vr XQ hr (by rw[Rj,Qm]) PF Mz;by_cases ET:Tb<(evA n ev).length
 .unfold zcV zeN at hA
  rw[Qc ET,Qc ET]at hA;refine⟨none,⟨Vr,XQ,by omega⟩,fun p Wj=>?_,zqH T ev (L:=L) (UB:=U) (XB:=U+Y+4) (B:=B) hR hn hL Nm EC Y1 Gb hT he HP (by omega) hB Ry Wg XQ Ri Rj (.inl ⟨hA,rfl⟩)⟩;have:=ztN hp XS DA DB (x:=p) (znG hT YP (Jp p Wj));omega
 .unfold zcV zeN at hA
  rw[Qb ET,Qb ET,<-hX,<-Nz]at hA;refine⟨o'.map fun y v=>atF (fo v) y,⟨Vr,XQ,by omega⟩,?_,zqH T ev (L:=L) (UB:=U) (XB:=U+Y+4) (B:=B) (why:=.junk) hR hn hL Nm EC Y1 Gb hT he HP (by omega) hB Ry Wg XQ Ri Rj (.inr ⟨hA,o',Je,(fun y hy=>by rw[hy]at Vo;exact Vo.2),rfl⟩)⟩;cases o' with
  |none =>
   intro p Wj;obtain⟨y,hy⟩:=zxu hT YP hp XS Wj (Jp p Wj);rw[<-Nn]at hy;exact Vo y hy
  |some y =>
   refine⟨?_,fun v hv=>?_⟩
   .have:=Vo.1
    rw[Nn]at this;have h2:=zoQ.1 this;rw[<-JZ]at h2;exact h2
   .show lN (atF (fo v) y)<=_
    rw[Ri,zjA];have h1:=zju (f:=fun j=>S.u v (k+j)*y j) (C:=U+B) (m:=n-k) fun j hj=>by
     have h1:=Wg v (k+j) hv (by omega);have h2:=Vo.2 j hj;have h3:=ZX (S.u v (k+j)) (y j);omega
    have h2:=za6 (X v) (smI (fun j=>S.u v (k+j)*y j) (n-k));have h3:=Ry v hv;omega
theorem zs2(ls:List Fm)(n:Nat)(V1:Q9 prog 51 [.agg (sS ls n)] (.tup [.agg [.junk,.junk,.junk],tB false])):SoC 31 [.agg (sS ls n)] n none:=by
 refine zcp QC call31 func31 rfl ntmps31 results31 (by simp) (by decide) ?_ ?_ ?_
 .exact zby
 .exact zdM
 simp only[go_sem];refine Q3 V1 rfl ?_;simp only[go_sem];exact zbo rfl rfl (fun b cs hb=>by cases hb)
theorem zr7(ls:List Fm){n:Nat}(hn:n<=1000)(V1:Q9 prog 51 [.agg (sS ls n)] (.tup [.agg (sN [] n []),tB true])):SoC 31 [.agg (sS ls n)] n (some fun _=>0):=by
 have Xl:((0:Int)<=(n:Int))=True:=Qf (by omega);refine zmA QC call31 func31 rfl ntmps31 results31 (by simp) (by decide) ?_ ?_ ?_
 .exact zby
 .exact zdM
 simp only[go_sem];refine Q3 V1 rfl ?_;simp only[go_sem,Xl]
 (repeat(refine Qg (by omega) ?_))
 refine⟨_,GStep.trans (zar 25 (cs:=Zg n [Abs.C.t (Abs.T.lit (Value.bool false)),Abs.C.t (Abs.T.seq (some true) [])]) (by simp only[go_sem]<;>rfl) (zeZ n)) (zc6 (b:=25) (b':=900000) (by simp only[go_sem]) (by decide) (by decide)),?_⟩;simp only[go_sem];exact zbo rfl rfl (zcI fun p hp=>by cases hp;simp only[go_sem]<;>rfl)
theorem zr8(ls T ev:List Fm){n:Nat}{o:Option (Nat->Int)}(hn:n<=4)(Wy:T≠[])(Nm:T.length<100000000)(Y1:ev.length<100000000)(Kt:ev≠[])(V1:Q9 prog 51 [.agg (sS ls n)] (.tup [.agg (sN T n ev),tB true]))
  (hq:SoC 52 [.agg (sN T n ev)] n o):SoC 31 [.agg (sS ls n)] n o:=by
 have e0:0<T.length:=wa6.2 Wy;have e2:0<ev.length:=wa6.2 Kt;have c1:((T.length:Int)=0)=False:=Ql (by omega);have c2:((ev.length:Int)>0)=True:=Qf (by omega);have c3:((0:Int)<(ev.length:Int))=True:=Qf (by omega);refine zcp QC call31 func31 rfl ntmps31 results31 (by simp) (by decide) ?_ ?_ ?_
 .exact zby
 .exact zdM
 simp only[go_sem];refine Q3 V1 rfl ?_;simp only[go_sem,c1,c2];cases o with
 |none =>
  refine zdI (.inr rfl) hq rfl ?_;simp only[go_sem];exact zbo rfl rfl (fun b cs hb=>by cases hb)
 |some p =>
  refine zdH 900000 (.inr rfl) hq rfl (by simp only[go_sem]) (by decide) ?_;simp only[go_sem];exact zbo rfl rfl (zcI fun p hp=>by cases hp;simp only[go_sem]<;>rfl)
theorem zs3(ls T:List Fm){n B B2:Nat}(hn:n<=4)(Wy:T≠[])(Nm:T.length<100000000)(V1:Q9 prog 51 [.agg (sS ls n)] (.tup [.agg (sN T n []),tB true]))
  (hb:zgH T n B 40) (he:∃ o,zbE T n B2 o/\SoC 54 [.agg (sN T n [])] n o) (Sq:B<=B2):∃ o,zbE T n B2 o/\SoC 31 [.agg (sS ls n)] n o:=by
 have e0:0<T.length:=wa6.2 Wy;have c1:((T.length:Int)=0)=False:=Ql (by omega);obtain⟨ob,kn,l',Ek,Fc,Lp⟩:=hb;cases kn with
 |true =>
  cases ob with
  |none =>
   refine⟨none,Fc rfl,?_⟩;refine zcp QC call31 func31 rfl ntmps31 results31 (by simp) (by decide) ?_ ?_ ?_
   .exact zby
   .exact zdM
   simp only[go_sem];refine Q3 V1 rfl ?_;simp only[go_sem,c1];refine zg7 6 (.inr rfl) Lp rfl (by simp only[go_sem]<;>rfl) ?_;simp only[go_sem];exact zbo rfl rfl (fun b cs hb=>by cases hb)
  |some p =>
   refine⟨some p,⟨Fc.2.1,fun v hv=>Qn (Fc.2.2 v hv) Sq⟩,?_⟩;refine zcp QC call31 func31 rfl ntmps31 results31 (by simp) (by decide) ?_ ?_ ?_
   .exact zby
   .exact zdM
   simp only[go_sem];refine Q3 V1 rfl ?_;simp only[go_sem,c1];refine zkM 6 (.inr rfl) Lp rfl (by simp only[go_sem]<;>rfl) (by simp only[go_sem]) (by decide) ?_;simp only[go_sem];exact zbo rfl rfl (zcI fun p hp=>by cases hp;simp only[go_sem]<;>rfl)
 |false =>
  cases ob with
  |some p=>exact Qo Fc.1 (by decide)
  |none =>
   obtain⟨o,Vo,Je⟩:=he;refine⟨o,Vo,?_⟩;refine zcp QC call31 func31 rfl ntmps31 results31 (by simp) (by decide) ?_ ?_ ?_
   .exact zby
   .exact zdM
   simp only[go_sem];refine Q3 V1 rfl ?_;simp only[go_sem,c1];refine zg7 6 (.inr rfl) Lp rfl (by simp only[go_sem]<;>rfl) ?_;simp only[go_sem];cases o with
   |none =>
    refine zdI (.inr rfl) Je rfl ?_;simp only[go_sem];exact zbo rfl rfl (fun b cs hb=>by cases hb)
   |some p =>
    refine zdH 900000 (.inr rfl) Je rfl (by simp only[go_sem]) (by decide) ?_;simp only[go_sem];exact zbo rfl rfl (zcI fun p hp=>by cases hp;simp only[go_sem]<;>rfl)
def Z6:Nat->Nat
 |0=>1
 |j+1=>70*Z6 j+230
theorem zfU{i:Nat}:∀ {j:Nat},i<=j->Z6 i<=Z6 j
 |0,h=>by
  obtain rfl:i=0:=by omega
  exact Qd _
 |j+1,h=>by
  by_cases e:i=j+1
  .rw[e];exact Qd _
  .have:=zfU (i:=i) (j:=j) (by omega)
   show Z6 i<=70*Z6 j+230;omega
theorem zl6:Z6 3=1486330/\Z6 4=104043330:=by decide
theorem zxw:∀ j,j<=3->∀ k,k<=4->j+k<=4->1<=k ->
  (eeG (30*(Z6 j+3)) k/29+1<=500000000/\(30*((30*(Z6 j+3)+(eeG (30*(Z6 j+3)) k+4)*(k+1))/29+3)+(eeG (30*(Z6 j+3)) k+13)*(k+1)+13)/29+1<=500000000 /\
   (eeG (30*(Z6 j+3)) k/29+1)+((30*(Z6 j+3)+(eeG (30*(Z6 j+3)) k+4)*(k+1))/29+3)+(Z6 j+3)+20<=Z6 (j+k)):=by decide +kernel
def zbf(r:Nat):Nat:=400000000+r*110000000
theorem zq6(r:Nat):zbf (r+1)=zbf r+110000000:=by unfold zbf;omega
theorem zuc{a b:Nat}(h:a<=b):zbf a<=zbf b:=by unfold zbf;omega
theorem zbE.mono{ls:List Fm}{n B B':Nat}{o:Option (Nat->Int)}(h:zbE ls n B o)(hB:B<=B'):zbE ls n B' o:=by
 cases o with
 |none=>exact h
 |some p=>exact⟨h.1,fun v hv=>Qn (h.2 v hv) hB⟩
theorem zbE.iff{ls ls':List Fm}{n B:Nat}{o:Option (Nat->Int)}(h:zbE ls n B o)(e:∀ p,Sat ls p↔Sat ls' p):zbE ls' n B o:=by
 cases o with
 |none=>exact fun p hp=>h p ((e p).2 hp)
 |some p=>exact⟨(e p).1 h.1,h.2⟩
theorem zbq.mono{ls:List Fm}{n B B':Nat}(h:zbq ls n B)(hB:B<=B'):zbq ls n B':=by
 obtain⟨o,h1,h2⟩:=h;exact⟨o,h1.mono hB,h2⟩
def PR(r j:Nat):Prop:=∀ (ls:List Fm) (n:Nat) (GG:Nat->Nat->Int),n<=4->(∀ f∈ls,Fv n (Z6 j) (Z6 j) f)->ls.length<=zam j->(∀ f∈ls,Yo r GG f)->zbq ls n (zbf r)
theorem Fv.neg1{n C K:Nat}{f:Fm}(h:Fv n C K f):Fv n C K (scF f (-1)) where
 wf:=zbC h.wf _
 lt:=fun m hm=>by
  have e:scF f (-1)=(scM (-1) f.1,f.2 * -1):=Qb (by decide);rw[e]at hm;obtain⟨x,hx,rfl⟩:=Qp.1 hm;exact h.lt x hx
 co:=fun m hm=>by
  have e:scF f (-1)=(scM (-1) f.1,f.2 * -1):=Qb (by decide);rw[e]at hm;obtain⟨x,hx,rfl⟩:=Qp.1 hm;have h1:=Zs x.2;have h2:x.2 * -1 = -x.2:=by omega
  show lN (x.2 * -1)<=C;rw[h2,h1];exact h.co x hx
 ko:=by
  have e:scF f (-1)=(scM (-1) f.1,f.2 * -1):=Qb (by decide);rw[e];have h2:f.2 * -1 = -f.2:=by omega
  show lN (f.2 * -1)<=K;rw[h2,Zs];exact h.ko
theorem zoT{ls:List Fm}{n C K B:Nat}(hn:n<=4)(hC:max C K<=500000000)(hl:ls.length<100000000)(h:∀ f∈ls,Fv n C K f)(X9:¬(okN ls/\okE (Zr ls))):zbq ls n B:=by
 have V1:=ziB ls n (n:=n) (by omega) hC hl h;have e:zfA ls n = .tup [.agg [.junk,.junk,.junk],tB false]:=Qb X9;rw[e]at V1;exact⟨none,fun p hp=>X9 ⟨zqa hp,zxB ((ziY (fun a ha=>(h a ha).wf) (zqa hp) p).2 hp)⟩,zs2 ls n V1⟩
theorem zs4{ls:List Fm}{n C K B:Nat}(hn:n<=1000)(hC:max C K<=500000000)(hl:ls.length<100000000)(h:∀ f∈ls,Fv n C K f)(h1:okN ls)(h2:okE (Zr ls))(h0:Zr ls=[]):zbq ls n B:=by
 have V1:=ziB ls n (n:=n) (by omega) hC hl h;rw[ziA h1 h2,h0]at V1;refine⟨some fun _=>0,⟨(ziY (fun a ha=>(h a ha).wf) h1 _).1 ?_,fun v hv=>?_⟩,zr7 ls hn V1⟩
 .rw[h0];exact Sat.nil
 .rw[ZI];omega
theorem znf{r j:Nat}(hr:1<=r)(DV:r+j<=4)(IH:∀ r' j',r'<r->r'+j'<=4->PR r' j'){ls:List Fm}{n:Nat}{GG:Nat->Nat->Int}(hn:n<=4)(h:∀ f∈ls,Fv n (Z6 j+2) (Z6 j+2) f)(hl:ls.length<=zam j+2)(hG:∀ f∈ls,Yo r GG f)
  (h1:okN ls) (h2:okE (Zr ls)) (Kt:evI (Zr ls) (Zr ls).length≠[]):zbq ls n (zbf r):=by
 have hw:∀ a∈ls,WF a:=fun a ha=>(h a ha).wf
 have RO:=zfU (i:=j) (j:=3) (by omega);have Rh:=zeU (i:=j) (j:=3) (by omega);have hq:=zl6;have MW:=zl2;have V1:=ziB ls n (n:=n) (C:=Z6 j+2) (K:=Z6 j+2) (by omega) (by omega) (by omega) h;rw[ziA h1 h2]at V1;have Xy:=zpN h;have K3:=znJ ls;have NM:=zos hw hG;have JV:=zpM ls;have DW:=ziY hw h1;obtain⟨T,hT⟩:∃ T,T=Zr ls:=⟨_,rfl⟩
 rw[<-hT]at V1 Xy K3 NM JV DW Kt h2;obtain⟨ev,NN⟩:∃ ev,ev=evI T T.length:=⟨_,rfl⟩
 have hm:∀ e∈ev,e∈T:=fun e he=>(zlD (Qd _) e (NN▸he)).1
 have Y1:=zlO JV T.length;rw[<-NN]at V1 Kt Y1;have Wy:T≠[]:=fun e=>by
  obtain⟨x,hx⟩:=wc2 _ Kt;have:=hm x hx;rw[e]at this;cases this
 obtain⟨k,hk⟩:∃ k,k=(QF (atW (evA n ev)) n ev.length ev.length).2:=⟨_,rfl⟩
 obtain⟨r0,rfl⟩:∃ r0,r=r0+1:=⟨r-1,by omega⟩
 have Rl:=zxw j (by omega) k;obtain⟨o,⟨Vr,XQ,DX⟩,Vo,Je⟩:=zvA T ev (L:=Z6 j+3) (B:=zbf r0) (r:=r0+1) (GG:=GG) hn (by omega) (by omega) Wy (by omega) Kt (fun f hf=>(Xy f hf).1) hm (fun e he=>(Xy e (hm e he)).2)
  (fun p hp e he=>zuf hp (Qd _) (NN▸he)) NM hk rfl rfl rfl rfl
  (fun a b c=>⟨(Rl (by omega) (by omega) a).1,(Rl (by omega) (by omega) a).2.1⟩) (by unfold zbf;omega) fun NX r' GG' a b c d e f=>by
   have Lq:=(Rl (by omega) (by omega) a).2.2;refine(IH r' (j+k) (by omega) (by omega) NX (n-k) GG' (by omega) (fun g hg=>(e g hg).mono (Qd _) Lq Lq) ?_ f).mono (zuc (by omega));have:=zvN j;have:=zeU (i:=j+1) (j:=j+k) (by omega);omega
 have Lq:=(Rl (by omega) (by omega) Vr).2.2;have h4:=zfU (i:=j+k) (j:=4) (by omega);exact⟨o,(Vo.mono (by rw[zq6];omega)).iff DW,zr8 ls T ev hn Wy (by omega) (by omega) Kt V1 Je⟩
theorem zud{r j:Nat}(hr:1<=r)(DV:r+j<=4)(IH:∀ r' j',r'<r->r'+j'<=4->PR r' j'){T:List Fm}{n v:Nat}{GG:Nat->Nat->Int}(hn:n<=4)(h:∀ f∈T,Fv n (Z6 j+1) (Z6 j+1) f)(hl:T.length<=zam j)(hG:∀ f∈T,Yo r GG f)
  {l:Fm} (KM:l∈QU T v) {i:Int} (XG:0<=i) (hi:i<=zcm v (zaj v (QR T v)) l):zbq (zbI T l i) n (zbf r):=by
 have RO:=zfU (i:=j) (j:=3) (by omega);have Rh:=zeU (i:=j) (j:=3) (by omega);have hq:=zl6;have MW:=zl2;obtain⟨MY,Rq⟩:=zbw.1 KM;have NW:=h l MY;have JC:=zpI (v:=v) (m:=zaj v (QR T v)) (l:=l) (zih v (QR T v)).1 Rq;have Sr:lN i<=Z6 j+1:=Qn (zeF (by omega)) (NW.lco v);obtain⟨f,hf⟩:∃ f,f=QP l (Ze i):=⟨_,rfl⟩
 have Rb:Fv n (Z6 j+2) (Z6 j+2) f:=by rw[hf];exact NW.add (Fv.const (n:=n) (C:=0) Sr) (by omega) (by omega)
 have XO:coM f.1 v=coM l.1 v:=by rw[hf,zgo NW.wf (zej i)];show _+coM [] v=_;rw[coM];omega
 have Ss:f.1≠[]:=fun e=>by
  rw[e]at XO;have:coM [] v=0:=rfl;omega
 have Dg:Yo r GG f:=by rw[hf];exact zvs NW.wf (hG l MY)
 have hS:zbI T l i=T++[f,scF f (-1)]:=by rw[hf];rfl
 have Nd:∀ g∈zbI T l i,Fv n (Z6 j+2) (Z6 j+2) g:=fun g hg=>by
  rw[hS]at hg;rcases wan.1 hg with hg|hg
  .exact(h g hg).mono (Qd _) (by omega) (by omega)
  .rcases wab.1 hg with rfl|hg
   .exact Rb
   .obtain rfl:=Qr.1 hg;exact Rb.neg1
 have Gv:∀ g∈zbI T l i,Yo r GG g:=fun g hg=>by
  rw[hS]at hg;rcases wan.1 hg with hg|hg
  .exact hG g hg
  .rcases wab.1 hg with rfl|hg
   .exact Dg
   .obtain rfl:=Qr.1 hg;exact zw2 Dg
 have On:(zbI T l i).length=T.length+2:=by rw[hS,Qj];rfl
 by_cases c:okN (zbI T l i)/\okE (Zr (zbI T l i))
 .have X6:f∈zbI T l i:=by rw[hS];exact wbB _ wam
  have E8:scF f (-1)∈zbI T l i:=by rw[hS];exact wbB _ (waj _ wam)
  exact znf hr DV IH hn Nd (by omega) Gv c.1 c.2 (ztR (fun a ha=>(Nd a ha).wf) X6 E8 Ss c.2)
 .exact zoT hn (by omega) (by omega) Nd c
theorem zue:∀ r j,r+j<=4->PR r j:=by
 intro r
 induction r using Nat.strongRecOn with
 |ind r IH =>
  intro j DV ls n GG hn h hl hG;have MS:=zfU (i:=j) (j:=4) (by omega);have Tp:=zeU (i:=j) (j:=4) (by omega);have hq:=zl6;have MW:=zl2;have hw:∀ a∈ls,WF a:=fun a ha=>(h a ha).wf
  by_cases c:okN ls/\okE (Zr ls)
  .obtain⟨h1,h2⟩:=c
   by_cases Wy:Zr ls=[]
   .exact zs4 (by omega) (by omega) (by omega) h h1 h2 Wy
   .have Xy:=zpN h
    have K3:=znJ ls;have NM:=zos hw hG;have hr:1<=r:=by
     refine waD fun hc=>?_
     obtain rfl:r=0:=by omega
     obtain⟨x,hx⟩:=wc2 _ Wy;exact(Xy x hx).2 (Yo.zero (Xy x hx).1.wf (NM x hx))
    have RO:=zfU (i:=j) (j:=3) (by omega);have Rh:=zeU (i:=j) (j:=3) (by omega);have IH2:∀ r' j',r'<r->r'+j'<=4->PR r' j':=fun r' j' a b=>IH r' a j' b
    by_cases Kt:evI (Zr ls) (Zr ls).length=[]
    .have V1:=ziB ls n (n:=n) (C:=Z6 j) (K:=Z6 j) (by omega) (by omega) (by omega) h
     rw[ziA h1 h2,Kt]at V1;have DW:=ziY hw h1;obtain⟨T,hT⟩:∃ T,T=Zr ls:=⟨_,rfl⟩
     rw[<-hT]at V1 Xy K3 NM DW Wy;have RK:∀ f∈T,Fv n (Z6 j+1) (Z6 j+1) f:=fun f hf=>(Xy f hf).1
     have Su:zgH T n 400000000 40:=ztW (n:=n) (C:=Z6 j+8) hn (by omega) (by omega) 40 (Qd _) T (Z6 j+1) Wy (by omega) (by omega) fun f hf=>(RK f hf).mono (Qd _) (by omega) (Qd _)
     have Wj:=zik T n;cases VI:zbc T n with
     |none =>
      rw[VI]at Wj;obtain⟨x,hx⟩:=wc2 _ Wy;refine((Xy x hx).2 (zor (Xy x hx).1.wf fun v=>?_)).elim;by_cases hv:v<n
      .have h3:=Wj v hv
       have a1:QU T v=[]:=weq (by omega);have a2:QR T v=[]:=weq (by omega);by_cases c1:coM x.1 v<0
       .have:=zbw.2 ⟨hx,c1⟩
        rw[a1]at this;cases this
       .by_cases c2:0<coM x.1 v
        .have:=zcc.2 ⟨hx,c2⟩
         rw[a2]at this;cases this
        .omega
      .exact(Xy x hx).1.co_ge (by omega)
     |some v =>
      rw[VI]at Wj;have Wj:v<n/\0<(QU T v).length+(QR T v).length:=Wj;have Wm:∃ f∈T,coM f.1 v≠0:=by
       by_cases a1:QU T v=[]
       .have a2:QR T v≠[]:=fun e=>by rw[a1,e]at Wj;exact Qo Wj.2 (by simp)
        obtain⟨x,hx⟩:=wc2 _ a2;have:=zcc.1 hx;exact⟨x,this.1,by omega⟩
       .obtain⟨x,hx⟩:=wc2 _ a1
        have:=zbw.1 hx;exact⟨x,this.1,by omega⟩
      obtain⟨r0,G',WL,XJ⟩:=zw1 (fun f hf=>(RK f hf).wf) NM Wm;subst WL;have hs:∀ d,zbq (shV d v (QU T v) (QR T v) (ZF T v)) n (zbf r0):=fun d=>by
       refine IH2 r0 (j+1) (by omega) (by omega) _ n G' hn (fun f hf=>?_) ?_ (XJ d)
       .have Tq:Z6 (j+1)=70*Z6 j+230:=rfl
        rcases zgc.1 hf with hf|⟨l,UC,g,UF,rfl⟩
        .exact(RK f (zfQ.1 hf).1).mono (Qd _) (by omega) (by omega)
        .exact(zym (RK l (zbw.1 UC).1) (RK g (zcc.1 UF).1)).mono (Qd _) (by omega) (by omega)
       .rw[zpF]
        have h3:=zkt T v;exact zsY (by omega)
      have Y1:=zr4 T [] (n:=n) (C:=Z6 j+1) (K:=Z6 j+1) (B:=zbf r0) (B2:=zbf (r0+1)) (v:=v) hn (by omega) (by unfold zbf;omega) (by rw[zq6];omega) (by omega) RK VI (hs _) (hs _)
       (zr5 T [] (n:=n) (C:=Z6 j+1) (K:=Z6 j+1) hn (by omega) (by omega) Wy Wj.1 RK fun l UC i XG Vb=>zud hr DV IH2 hn RK (by omega) NM UC XG Vb)
      obtain⟨o,Vo,Je⟩:=zs3 ls T (B:=400000000) hn Wy (by omega) V1 Su Y1 (by unfold zbf;omega);exact⟨o,Vo.iff DW,Je⟩
    .exact znf hr DV IH2 hn (fun f hf=>(h f hf).mono (Qd _) (by omega) (by omega)) (by omega) hG h1 h2 Kt
  .exact zoT hn (by omega) (by omega) h c
theorem zoU(ls:List Fm)(n:Nat)(hn:n<=4)(h:∀ f∈ls,Fv n 1 1 f)(hl:ls.length<=8):zbq ls n 840000000 :=
 (zue n 0 (by omega) ls n _ hn h hl fun f hf=>zvt (h f hf)).mono (by unfold zbf;omega)
theorem Q9.ne1{P:Program}{f:FuncId}{xs:List (List Go.Abs.T)}{args:List TV}{r:TV}(hne:xs≠[])(h:Q9 P f (.one (.seq (some false) xs)::args) r):Q9 P f (.one (.seq none xs)::args) r:=by
 refine⟨h.1,fun ok w vs YA hv=>h.2 ok w vs YA ⟨by rw[hv.1];simp,fun i hi Y6=>?_⟩⟩;have h2:=hv.2 i (by simpa using hi) Y6;cases i with
 |zero =>
  simp only[waq,wcG]at h2 ⊢;generalize vs[0]=v at h2;cases h2 with
  |one h2 =>
   cases h2 with
   |t h2=>exact .one (.t (h2.ne hne))
 |succ i=>simpa using h2
def ze6:Prop:=∀ (xs:List Nat) (i:Nat),i<xs.length->Zf prog 64 [.one (.vec PIN 1 0 xs.length),litI .i64 i,litI .i64 ((i:Int)+1)] (Yq PIN (Q5 cI1 xs)) (.one (.vec PIN 1 0 (xs.length-1))) (Yq PIN (Q5 cI1 (xs.eraseIdx i)))
theorem ztm(xs:List Nat)(hl:xs.length<1000000000):zhO prog 65 [.one (.seq (some false) (xs.map cI1))] 1 xs.length (Q5 cI1 xs):=by
 refine zj3 (b:=5) QC call65 func65 rfl ntmps65 results65 (by simp) (by decide) ?_ ?_
 .exact zgT
 simp only[go_sem];refine zkc 5 1 rfl (Qd _) (by simp only[go_sem]<;>decide) (by simp only[go_sem]) (by decide) ?_;simp only[go_sem];refine zay (Qd _) (sz:=1) (bytes:=8) (by simp only[go_sem,QV]<;>decide) ZW [] xs (by simp only[go_sem]<;>rfl) rfl (by simp only[go_sem]<;>rfl) (by simp only[go_sem]<;>rfl) rfl (by simp;omega) (by decide) ?_;simp only[go_sem];exact⟨[],by simp⟩
theorem zsI(hD:ze6)(xs:List Nat)(i:Nat)(hi:i<xs.length)(hl:xs.length<1000000):Q9 prog 36 [.one (eL cI1 xs),tI .i64 i] (.one (eL cI1 (xs.eraseIdx i))):=by
 have hne:xs≠[]:=fun e=>by rw[e]at hi;exact Qo hi (by simp)
 have XA:IntKind.wrap .i64 ((i:Int)+1)=(i:Int)+1:=Q6 (by omega) (by omega);have YZ:(xs.eraseIdx i).length=xs.length-1:=wcR hi;refine Q9.ne1 (by simpa using hne) ?_;refine QJ QC call36 func36 rfl ntmps36 results36 (by simp) (by decide) ?_;simp only[go_sem];refine zf3 6 (.inr rfl) (ztm xs (by omega)) (by first|rfl|(simp only[go_sem]<;>rfl)) (by simp only[go_sem]) (by decide) ?_;simp only[go_sem,XA];refine zeW 6 (.inr rfl) (hD xs i hi) (by simp only[go_sem]<;>rfl) (by simp only[go_sem,PIN]<;>rfl) zkD zgT zgT ?_;simp only[go_sem];exact zf7 ZW (by simp only[go_sem]<;>rfl) (by omega)
def pkF(ls:List Fm)(c:List Nat):List Fm:=c.map fun i=>ls.getD i ([],0)
theorem zwx(ls:List Fm)(c:List Nat)(hc:∀ i∈c,i<ls.length)(hl:c.length<1000000):Q9 prog 37 [.one (eL cF ls),.one (eL cI1 c)] (.one (eL cF (pkF ls c))):=by
 refine QJ QC call37 func37 rfl ntmps37 results37 (by simp) (by decide) ?_;simp only[go_sem];refine QK (fun i:Nat=>stL 23 [(0,.one (.t (eL cF ls))),(5,zaf 1000 3 (pkF ls (c.take i))),(8,.one (.t (eL cI1 c))),(9,litI .i64 c.length),(10,litI .i64 i)]
   (Zb 1000 cF (pkF ls (c.take i)))) (fun i=>i<=c.length) (fun i=>c.length-i) 0 ?_ (Qk _) ?_
 .rw[wao,show pkF ls []=[]from rfl]
  (refine Q7 rfl ?_ ?_ ?_ ?_<;>(try simp only[go_sem])<;>(try simp))
 .intro i hi
  simp only[go_sem];refine QI (fun Yw=>?_) (fun YG=>?_)
  .have Yv:i<c.length:=by omega
   have Y1:QM cI1 c i=cI1 c[i]:=Q8 Yv;have hq:=hc _ (Qh Yv);have Yx:pkF ls (c.take (i+1))=pkF ls (c.take i)++[ls.getD c[i] ([],0)]:=by unfold pkF;rw[Zd Yv,waG];rfl
   have Rp:(pkF ls (c.take i)).length<=1000000:=by unfold pkF;rw[Qm,wat];omega
   generalize c[i]=q at *
   have YI:QM cF ls q=cF (ls.getD q ([],0)):=by rw[Q8 hq,waC,waa hq];rfl
   have XI:((q:Int)<(ls.length:Int))=True:=Qf (by omega);have J0:((0:Int)<=(q:Int))=True:=Qf (by omega);generalize ls.getD q ([],0)=f at *
   generalize pkF ls (c.take i)=acc at *
   simp only[go_sem,Y1,Yw]
   (repeat(refine Qg (by omega) ?_))
   simp only[go_sem,YI]
   (repeat(refine Qg (by omega) ?_))
   refine ZC (sz:=3) (bytes:=56) (by simp only[go_sem,QV]<;>decide) ZB acc [f] (b:=1000) (by simp only[go_sem]<;>rfl) (by simp only[go_sem]<;>rfl) (by simp only[go_sem]<;>rfl) rfl (by simp) (by simp only[Qe,Qi]at *;omega) (by decide) ?_;simp only[go_sem];refine⟨i+1,Yv,(by show c.length-(i+1)<c.length-i;omega),?_⟩
   (refine Q7 rfl ?_ ?_ ?_ ?_<;>(try simp only[go_sem,Yx,Q6 (n:=(i:Int)+1) (by omega) (by omega)])<;>(try simp))
  .obtain rfl:i=c.length:=by omega
   rw[Q1];simp only[go_sem];exact zlE ZB (by simp only[go_sem])
def xT(n:Nat):Option (Nat->Int)->TV
 |some p=>.one (eL cJ (fnG n p))
 |none=>.one (.seq (some true) [])
theorem ztn(ls:List Fm)(n:Nat){o:Option (Nat->Int)}(hw:Q9 prog 30 [.one (eL cF ls),tI .i64 n] (tI .i64 0))(h:SoC 31 [.agg (sS ls n)] n o) :
  Q9 prog 13 [.one (eL cF ls),tI .i64 n] (.tup [xT n o,tB o.isSome,tI .i64 0]):=by
 refine QJ QC call13 func13 rfl ntmps13 results13 (by simp) (by decide) ?_;cases o with
 |none =>
  simp only[go_sem];refine Q3 hw rfl ?_;simp only[go_sem];refine zdI (.inr rfl) h rfl ?_;simp only[go_sem];exact zlp (.one .t) (.one .t) (.one .t)
 |some p =>
  simp only[go_sem];refine Q3 hw rfl ?_;simp only[go_sem];refine zdH 900000 (.inr rfl) h rfl (by simp only[go_sem]) (by decide) ?_;simp only[go_sem];exact zlp (zf7 Ye (by simp only[go_sem]<;>rfl) Zc.symm) (.one .t) (.one .t)
theorem znl(ls:List LL)(n e:Int)(he:e≠0)(hw:Q9 prog 30 [.one (eL cL ls),tI .i64 n] (tI .i64 e)) :
  Q9 prog 13 [.one (eL cL ls),tI .i64 n] (.tup [.one (.seq (some true) []),tB false,tI .i64 e]):=by
 have GJ:(e=0)=False:=Ql he;refine QJ QC call13 func13 rfl ntmps13 results13 (by simp) (by decide) ?_;simp only[go_sem];refine Q3 hw rfl ?_;simp only[go_sem,GJ];exact zlp (.one .t) (.one .t) (.one .t)
theorem znY{q:Rat}(h:0<=q)(h2:¬0<q.num):q=0:=by
 have h3:0<=q.num:=wdR.2 h;exact wdk.1 (by omega)
theorem zdh.sub{ls:List Fm}{n C K:Nat}{g:List Rat}(h:zdh ls n g)(YU:∀ f∈ls,Fv n C K f){p:Nat->Int}(hp:∀ i,i<ls.length->0<(g.getD i 0).num->atF (ls.getD i ([],0)) p<=0):False:=by
 obtain⟨h1,h2,h3⟩:=h;have hg:∀ i,0<=g.getD i 0:=fun i=>by
  rw[waC];cases e:g[i]? with
  |none=>exact wdl
  |some q=>exact h1 q (wdm e)
 obtain⟨ls',RW⟩:∃ ls':List Fm,ls'=fnG ls.length fun i=>if 0<(g.getD i 0).num then ls.getD i ([],0)else([],0):=⟨_,rfl⟩
 have Y0:ls'.length=ls.length:=by rw[RW,Zc]
 have UE:∀ i,i<ls.length->ls'.getD i ([],0)=if 0<(g.getD i 0).num then ls.getD i ([],0)else([],0):=fun i hi=>by
  have XS:i<ls'.length:=by omega
  rw[waC,waa XS];subst RW;exact za2 _
 have hm:∀ f∈ls',∃ i,i<ls.length/\f=if 0<(g.getD i 0).num then ls.getD i ([],0)else([],0):=fun f hf=>by
  rw[RW]at hf;obtain⟨i,hi,e⟩:=zeq hf;exact⟨i,hi,e⟩
 have hd:∀ i,i<ls.length->ls.getD i ([],0)∈ls:=fun i hi=>by
  rw[waC,waa hi];exact Qh hi
 have hN:zdh ls' n g:=by
  refine⟨h1,fun v hv=>?_,?_⟩
  .refine wcQ ?_ (h2 v hv)
   rw[Y0];refine Yd fun i hi=>?_
   rw[UE i hi];by_cases c:0<(g.getD i 0).num
   .rw[Qc c]
   .rw[znY (hg i) c,wbC,wbC]
  .rw[Y0]
   have e:smQ (fun i=>g.getD i 0*((ls'.getD i ([],0)).2:Rat)) ls.length=smQ (fun i=>g.getD i 0*((ls.getD i ([],0)).2:Rat)) ls.length:=Yd fun i hi=>by
    rw[UE i hi];by_cases c:0<(g.getD i 0).num
    .rw[Qc c]
    .rw[znY (hg i) c,wbC,wbC]
   rw[e];exact h3
 refine hN.sat (C:=C) (K:=K) (fun f hf=>?_) (p:=p) fun f hf=>?_
 .obtain⟨i,hi,rfl⟩:=hm f hf
  split
  .exact YU _ (hd i hi)
  .exact Fv.zero
 .obtain⟨i,hi,rfl⟩:=hm f hf
  split
  .rename_i c;exact hp i hi c
  .exact wbi _
def zaU(ls:List Fm)(c:List Nat)(a:Nat):Prop :=
 c.Pairwise (fun x y=>x<y)/\(∀ i∈c,i<ls.length)/\(∀ p,¬Sat (pkF ls c) p)/\a<=c.length/\∀ j,j<a->∃ p,Sat (pkF ls (c.eraseIdx j)) p
theorem zwh{ls:List Fm}{c c':List Nat}{p:Nat->Int}(h:∀ x∈c',x∈c)(hs:Sat (pkF ls c) p):Sat (pkF ls c') p:=fun f hf=>by
 obtain⟨i,hi,rfl⟩:=Qp.1 hf;exact hs _ (Qp.2 ⟨i,h i hi,rfl⟩)
theorem zaU.up{ls:List Fm}{c:List Nat}{a:Nat}(h:zaU ls c a)(ha:a<c.length)(hs:∃ p,Sat (pkF ls (c.eraseIdx a)) p):zaU ls c (a+1):=by
 obtain⟨h1,h2,h3,h4,h5⟩:=h;refine⟨h1,h2,h3,ha,fun j hj=>?_⟩;by_cases e:j=a
 .rw[e];exact hs
 .exact h5 j (by omega)
theorem zaU.cut{ls:List Fm}{c:List Nat}{a:Nat}(h:zaU ls c a)(ha:a<c.length)(hs:∀ p,¬Sat (pkF ls (c.eraseIdx a)) p):zaU ls (c.eraseIdx a) a:=by
 obtain⟨h1,h2,h3,h4,h5⟩:=h;have hl:=wcR ha;refine⟨h1.sublist (List.eraseIdx_sublist c a),fun i hi=>h2 i (wdM hi),hs,by omega,fun j hj=>?_⟩;obtain⟨p,hp⟩:=h5 j hj;refine⟨p,zwh (fun x hx=>?_) hp⟩;obtain⟨i,hi,Fp,rfl⟩:=wej.1 hx;rw[wej];rw[List.getElem_eraseIdx];by_cases e:i<a
 .rw[dif_pos e];exact⟨i,by omega,Fp,rfl⟩
 .rw[dif_neg e];exact⟨i+1,by omega,by omega,rfl⟩
def Ya(P:Nat->Bool)(i:Nat):List Nat:=(List.range i).filter P
theorem ztf(P:Nat->Bool)(i:Nat):Ya P (i+1)=if P i=true then Ya P i++[i]else Ya P i:=by
 unfold Ya;rw[wc8,wdn];by_cases c:P i=true
 .rw[Qc c,List.filter_cons_of_pos c];rfl
 .rw[Qb c,List.filter_cons_of_neg (by simpa using c)];simp
theorem znZ(P:Nat->Bool)(i:Nat):(Ya P i).length<=i:=by
 have:=wdS P (List.range i)
 rwa[List.length_range]at this
theorem zuu{ls:List Fm}{P:Nat->Bool}(h:∀ p,¬Sat (pkF ls (Ya P ls.length)) p):zaU ls (Ya P ls.length) 0 :=
 ⟨wdT _ wdo,(fun i hi=>waJ.1 (wcc.1 hi).1),h,Qk _,fun j hj=>Qo hj (waO _)⟩
theorem zwi{ls:List Fm}{p:Nat->Int}(h:Sat (pkF ls (Ya (fun _=>true) ls.length)) p):Sat ls p:=fun f hf=>by
 obtain⟨i,hi,rfl⟩:=waK.1 hf;have:=h (ls.getD i ([],0)) (Qp.2 ⟨i,wcc.2 ⟨waJ.2 hi,rfl⟩,rfl⟩)
 rwa[waC,waa hi]at this
theorem zwj{ls:List Fm}{n C K:Nat}{g:List Rat}(h:zdh ls n g)(YU:∀ f∈ls,Fv n C K f)(p:Nat->Int):¬Sat (pkF ls (Ya (fun i=>decide (0<(g.getD i 0).num)) ls.length)) p:=fun hs =>
 h.sub YU fun i hi hp=>hs (ls.getD i ([],0)) (Qp.2 ⟨i,wcc.2 ⟨waJ.2 hi,waA hp⟩,rfl⟩)
theorem zvi(ls:List LL)(n e:Int)(he:e≠0)(hs:Q9 prog 13 [.one (eL cL ls),tI .i64 n] (.tup [.one (.seq (some true) []),tB false,tI .i64 e])) :
  Q9 prog 16 [.one (eL cL ls),tI .i64 n] (.tup [.one (.seq (some true) []),tI .i64 e]):=by
 have GJ:(e=0)=False:=Ql he;refine QJ QC call16 func16 rfl ntmps16 results16 (by simp) (by decide) ?_;simp only[go_sem];refine Q3 hs rfl ?_;simp only[go_sem,GJ];exact zaW (.one .t) (.one .t)
theorem zvj(ls:List Fm)(n:Nat){p:Nat->Int}(hs:Q9 prog 13 [.one (eL cF ls),tI .i64 n] (.tup [xT n (some p),tB true,tI .i64 0])) :
  Q9 prog 16 [.one (eL cF ls),tI .i64 n] (.tup [.one (.seq (some true) []),tI .i64 0]):=by
 refine QJ QC call16 func16 rfl ntmps16 results16 (by simp) (by decide) ?_;unfold xT at hs;simp only[go_sem];refine Q3 hs rfl ?_;simp only[go_sem];exact zaW (.one .t) (.one .t)
noncomputable def zbZ(ls:List Fm)(x:List Nat×Nat):List Nat×Nat:=by
 classical exact if x.2<x.1.length then(if ∃ p,Sat (pkF ls (x.1.eraseIdx x.2)) p then(x.1,x.2+1)else(x.1.eraseIdx x.2,x.2))else x
theorem znv{ls:List Fm}{x:List Nat×Nat}(h:x.2<x.1.length)(h2:∃ p,Sat (pkF ls (x.1.eraseIdx x.2)) p):zbZ ls x=(x.1,x.2+1):=by
 unfold zbZ;rw[Qc h,Qc h2]
theorem zon{ls:List Fm}{x:List Nat×Nat}(h:x.2<x.1.length)(h2:∀ p,¬Sat (pkF ls (x.1.eraseIdx x.2)) p):zbZ ls x=(x.1.eraseIdx x.2,x.2):=by
 unfold zbZ;rw[Qc h,Qb fun h=>by obtain⟨p,hp⟩:=h;exact h2 p hp]
noncomputable def itC(ls:List Fm)(c:List Nat):Nat->List Nat×Nat
 |0=>(c,0)
 |k+1=>zbZ ls (itC ls c k)
theorem ztK{ls:List Fm}{x:List Nat×Nat}(h:zaU ls x.1 x.2)(hl:x.2<x.1.length):zaU ls (zbZ ls x).1 (zbZ ls x).2/\(zbZ ls x).1.length-(zbZ ls x).2+1=x.1.length-x.2:=by
 by_cases c:∃ p,Sat (pkF ls (x.1.eraseIdx x.2)) p
 .rw[znv hl c];exact⟨h.up hl c,by show x.1.length-(x.2+1)+1=_;omega⟩
 .have c':∀ p,¬Sat (pkF ls (x.1.eraseIdx x.2)) p:=fun p hp=>c ⟨p,hp⟩
  rw[zon hl c'];refine⟨h.cut hl c',?_⟩;show(x.1.eraseIdx x.2).length-x.2+1=_;rw[wcR hl];omega
theorem zhh{ls:List Fm}{c:List Nat}(h:zaU ls c 0):∀ k,(∀ r,r<k->(itC ls c r).2<(itC ls c r).1.length)->zaU ls (itC ls c k).1 (itC ls c k).2/\(itC ls c k).1.length-(itC ls c k).2+k=c.length
 |0,_=>⟨h,by show c.length-0+0=_;omega⟩
 |k+1,hr=>by
  obtain⟨h1,h2⟩:=zhh h k fun r SP=>hr r (by omega)
  obtain⟨h3,h4⟩:=ztK h1 (hr k (by omega));exact⟨h3,by show(zbZ ls _).1.length-(zbZ ls _).2+(k+1)=_;omega⟩
theorem zwW{ls:List Fm}{c:List Nat}(h:zaU ls c 0):∃ T,T<=c.length/\(∀ r,r<T->(itC ls c r).2<(itC ls c r).1.length)/\(itC ls c T).2=(itC ls c T).1.length:=by
 obtain⟨T,h1,h2,h3⟩:=zgZ (fun k=>¬(itC ls c k).2<(itC ls c k).1.length) c.length;have h2:∀ r,r<T->(itC ls c r).2<(itC ls c r).1.length:=fun r hr=>wcP.1 (h2 r hr)
 obtain⟨h4,h5⟩:=zhh h T h2;have h6:=h4.2.2.2.1;refine⟨T,h1,h2,?_⟩;by_cases c:T<c.length
 .have:=h3 c;omega
 .omega
theorem zoo(hD:ze6)(ls:List Fm)(n:Nat){okb:Bool}{W:Go.Abs.T}{X:TV}{g:List Rat}{P:Nat->Bool}{G B:Nat}(hl:ls.length<=60)(hn:n<=40)(hP:(okb=true/\P=fun _=>true)\/(okb=false/\W=eL cR g/\g.length=ls.length/\P=fun i=>decide (0<(g.getD i 0).num)))(hG:∀ q∈g,lQ q<=G)(Dg:G<=400000000)
  (hs:Q9 prog 13 [.one (eL cF ls),tI .i64 n] (.tup [.one (.seq (some true) []),tB false,tI .i64 0])) (hx:Q9 prog 34 [.one (eL cF ls),tI .i64 n] (.tup [X,.one W,tB okb]))
  (hu:∀ p,¬Sat (pkF ls (Ya P ls.length)) p) (YP:∀ c:List Nat,(∀ i∈c,i<ls.length)->c.length<=ls.length->zbq (pkF ls c) n B) :
  ∃ c,zaU ls c c.length/\Q9 prog 16 [.one (eL cF ls),tI .i64 n] (.tup [.one (eL cI1 c),tI .i64 0]):=by
 obtain⟨R,hR⟩:∃ R,R=ls.length:=⟨_,rfl⟩
 have UY:=zuu hu;have hne:Ya P ls.length≠[]:=fun e=>by
  rw[e]at hu;exact hu (fun _=>0) fun f hf=>by cases hf
 obtain⟨c0,XT⟩:∃ c0,c0=Ya P ls.length:=⟨_,rfl⟩
 rw[<-XT]at UY hne;have Hq:c0.length<=R:=by rw[XT,hR];exact znZ P _
 obtain⟨T,Uf,Wv,K7⟩:=zwW UY;have Mh:=(zhh UY T Wv).1;rw[K7]at Mh;have Dh:∀ k,k<=T->zaU ls (itC ls c0 k).1 (itC ls c0 k).2:=fun k hk=>(zhh UY k fun r hr=>Wv r (by omega)).1
 have SQ:∀ k,k<=T->(itC ls c0 k).1.length-(itC ls c0 k).2+k=c0.length:=fun k hk=>(zhh UY k fun r hr=>Wv r (by omega)).2
 have YW:∀ k,(itC ls c0 k).1.length<=R:=fun k=>by
  induction k with
  |zero=>exact Hq
  |succ k ih =>
   show(zbZ ls _).1.length<=R;unfold zbZ;split
   .split
    .exact ih
    .exact Qn (wdL _ _) ih
   .exact ih
 refine⟨_,Mh,?_⟩;have Vp:0<R:=by have:=wa6.2 hne;omega
 rw[<-hR]at XT;refine QJ QC call16 func16 rfl ntmps16 results16 (by simp) (by decide) ?_;simp only[go_sem];refine Q3 hs rfl ?_;simp only[go_sem];refine Q3 hx rfl ?_;simp only[go_sem,<-hR];refine QK (fun i:Nat=>if i=R then stL 79 [(0,.one (.t (eL cF ls))),(1,litI .i64 n),(9,.one (.t (eL cI1 c0))),(39,litI .i64 R),(40,litI .i64 i)] []
  else stL 79 [(0,.one (.t (eL cF ls))),(1,litI .i64 n),(9,zaf 1000 1 (Ya P i)),(11,.one (.t W)),(12,QO okb),(39,litI .i64 R),(40,litI .i64 i)] (Zb 1000 cI1 (Ya P i))) (fun i=>i<=R) (fun i=>R-i) 0 ?_ (Qk _) ?_
 .rw[Qb (by omega),show Ya P 0=[]from rfl]
  (refine Q7 rfl ?_ ?_ ?_ ?_<;>(try simp only[go_sem,QA])<;>(try simp))
 .intro i hi
  by_cases Dd:i=R
  .subst Dd
   clear hi;have R5:((i:Int)<(i:Int))=False:=Ql (by omega);simp only[Qc];simp only[go_sem,R5];refine QK (fun k:Nat=>stL 79 [(0,.one (.t (eL cF ls))),(1,litI .i64 n),(9,.one (.t (eL cI1 (itC ls c0 k).1))),(14,litI .i64 (itC ls c0 k).2)] []) (fun k=>k<=T) (fun k=>T-k) 0 ?_ (Qk _) ?_
   .show Go.Abs.GStep _ (stL 79 [(0,.one (.t (eL cF ls))),(1,litI .i64 n),(9,.one (.t (eL cI1 c0))),(14,litI .i64 ((0:Nat):Int))] [])
    (refine Q7 rfl ?_ ?_ ?_ ?_<;>(try simp only[go_sem,QA])<;>(try simp))
   .intro k hk
    have No:=Dh k hk;have Vc:itC ls c0 (k+1)=zbZ ls (itC ls c0 k):=rfl;have EG:(itC ls c0 k).2<(itC ls c0 k).1.length↔k<T:=⟨fun h=>by
     by_cases e:k=T
     .rw[e,K7]at h;exact Qo h (wa8 _)
     .omega,Wv k⟩
    have Di:=YW k;have Y5:k=T->(itC ls c0 T).1=(itC ls c0 k).1:=fun e=>by rw[e]
    generalize YN:itC ls c0 k=st at *
    obtain⟨c,a⟩:=st;have No:zaU ls c a:=No;have EG:a<c.length↔k<T:=EG;have Di:c.length<=i:=Di;simp only[go_sem];refine QI (fun Yw=>?_) (fun YG=>?_)
    .have Dj:a<c.length:=by omega
     have Rd:=EG.1 Dj;have ow:=zsI hD c a Dj (by omega);have Y1:=wcR Dj;have Mi:∀ x∈c.eraseIdx a,x<ls.length:=fun x hx=>No.2.1 x (wdM hx)
     have os:=zwx ls (c.eraseIdx a) Mi (by omega);obtain⟨o,Vo,Je⟩:=YP (c.eraseIdx a) Mi (by omega);have JR:∀ q,o=some q->itC ls c0 (k+1)=(c,a+1):=fun q hq=>by
      rw[Vc];rw[hq]at Vo;exact znv (x:=(c,a)) Dj ⟨q,Vo.1⟩
     have GW:o=none->itC ls c0 (k+1)=(c.eraseIdx a,a):=fun hq=>by
      rw[Vc];rw[hq]at Vo;exact zon (x:=(c,a)) Dj Vo
     generalize pkF ls (c.eraseIdx a)=PK at *
     generalize c.eraseIdx a=c2 at *
     simp only[go_sem];((repeat(refine Q4 0 rfl ?_;simp only[go_sem]));refine Q3 (ow) rfl ?_;simp only[go_sem];(repeat(refine Q4 0 rfl ?_;simp only[go_sem]));refine Q3 (os) rfl ?_;simp only[go_sem];(repeat(refine Q4 0 rfl ?_;simp only[go_sem])));cases o with
     |none =>
      refine zdI (.inr rfl) Je rfl ?_;simp only[go_sem];refine⟨k+1,Rd,(by show T-(k+1)<T-k;omega),?_⟩
      (refine Q7 rfl ?_ ?_ ?_ ?_<;>(try simp only[go_sem,QA,GW rfl])<;>(try simp))
     |some q =>
      refine zdH 900000 (.inr rfl) Je rfl (by simp only[go_sem]) (by decide) ?_;simp only[go_sem];refine⟨k+1,Rd,(by show T-(k+1)<T-k;omega),?_⟩
      (refine Q7 rfl ?_ ?_ ?_ ?_<;>(try simp only[go_sem,QA,JR q rfl,Q6 (n:=(a:Int)+1) (by omega) (by omega)])<;>(try simp))
    .have Rd:k=T:=by
      have:¬k<T:=fun h=>by have:=EG.2 h;omega
      omega
     rw[Y5 Rd];simp only[go_sem];exact zaW Yr (.one .t)
  .simp only[Qb Dd]
   have Yv:i<R:=by omega
   have XA:IntKind.wrap .i64 ((i:Int)+1)=((i+1:Nat):Int):=by rw[Q6 (by omega) (by omega)];omega
   have XG:((i:Int)<(R:Int))=True:=Qf (by omega);have Np:=ztf P i;have Rp:=znZ P i;obtain⟨CM,Uu⟩:∃ CM,CM=stL 79 [(0,.one (.t (eL cF ls))),(1,litI .i64 n),(9,zaf 1000 1 (Ya P (i+1))),(11,.one (.t W)),(12,QO okb),(39,litI .i64 R),(40,litI .i64 (i+1:Nat))] (Zb 1000 cI1 (Ya P (i+1))):=⟨_,rfl⟩
   have Y5:Go.Abs.GStep CM (if i+1=R then stL 79 [(0,.one (.t (eL cF ls))),(1,litI .i64 n),(9,.one (.t (eL cI1 c0))),(39,litI .i64 R),(40,litI .i64 (i+1:Nat))] []
     else stL 79 [(0,.one (.t (eL cF ls))),(1,litI .i64 n),(9,zaf 1000 1 (Ya P (i+1))),(11,.one (.t W)),(12,QO okb),(39,litI .i64 R),(40,litI .i64 (i+1:Nat))] (Zb 1000 cI1 (Ya P (i+1)))):=by
    by_cases e2:i+1=R
    .rw[Qc e2,Uu]
     rw[show Ya P (i+1)=c0 by rw[XT,e2]];cases Ja:c0 with
     |nil=>exact(hne Ja).elim
     |cons z zs =>
      refine GStep.trans (zbu (b:=1000) (sz:=1) (len:=(z::zs).length) (by simp only[go_sem,ziG]<;>rfl) (Yl ZW)) ?_
      (refine Q7 rfl ?_ ?_ ?_ ?_<;>(try simp only[go_sem,QA,zkC,ziG])<;>(try simp))
    .rw[Qb e2,Uu]
     (refine Q7 rfl ?_ ?_ ?_ ?_<;>(try simp only[go_sem,QA])<;>(try simp))
   rcases hP with⟨rfl,Pl⟩|⟨rfl,hW,Gc,Pm⟩
   .have Yx:Ya P (i+1)=Ya P i++[i]:=by rw[Np,Pl];rfl
    generalize Ya P i=ac at *
    simp only[go_sem,XG];refine ZC (sz:=1) (bytes:=8) (by simp only[go_sem,QV]<;>decide) ZW ac [i] (b:=1000) (by simp only[go_sem]<;>rfl) (by simp only[go_sem]<;>rfl) (by simp only[go_sem]<;>rfl) rfl (by simp) (by simp only[Qe,Qi]at *;omega) (by decide) ?_;simp only[go_sem];refine⟨i+1,by omega,(by show R-(i+1)<R-i;omega),GStep.trans (σ₁:=CM) ?_ Y5⟩;rw[Uu,Yx]
    (refine Q7 rfl ?_ ?_ ?_ ?_<;>(try simp only[go_sem,QA,XA])<;>(try simp))
   .subst hW
    have Nc:i<g.length:=by omega
    have Y1:QM cR g i=cR g[i]:=Q8 Nc;have Ga:=hG _ (Qh Nc);have JA:=zaD g[i];have U0:g.getD i 0=g[i]:=by rw[waC,waa Nc];rfl
    have Hr:((i:Int)<(g.length:Int))=True:=Qf (by omega);have Mj:P i=decide (0<g[i].num):=by rw[Pm];show decide (0<(g.getD i 0).num)=_;rw[U0]
    generalize g[i]=q at *
    have o1:=zdF q.num (by omega);simp only[go_sem,XG,Y1,Hr]
    (repeat(refine Qg (by omega) ?_))
    refine Q3 o1 rfl ?_;by_cases hq:0<q.num
    .have XJ:(q.num.sign>0)=True:=Qf (by rw[wbJ hq];decide)
     have UQ:(0<q.num.sign)=True:=XJ;have Yx:Ya P (i+1)=Ya P i++[i]:=by rw[Np,Mj,Qc (waA hq)]
     generalize Ya P i=ac at *
     simp only[go_sem,XJ,UQ];refine ZC (sz:=1) (bytes:=8) (by simp only[go_sem,QV]<;>decide) ZW ac [i] (b:=1000) (by simp only[go_sem]<;>rfl) (by simp only[go_sem]<;>rfl) (by simp only[go_sem]<;>rfl) rfl (by simp) (by simp only[Qe,Qi]at *;omega) (by decide) ?_;simp only[go_sem];refine⟨i+1,by omega,(by show R-(i+1)<R-i;omega),GStep.trans (σ₁:=CM) ?_ Y5⟩;rw[Uu,Yx]
     (refine Q7 rfl ?_ ?_ ?_ ?_<;>(try simp only[go_sem,QA,XA])<;>(try simp))
    .have UQ:(0<q.num.sign)=False:=Ql (fun h=>hq (wdv.1 h))
     have XJ:(q.num.sign>0)=False:=UQ;have Yx:Ya P (i+1)=Ya P i:=by rw[Np,Mj,Qb (by simpa using hq)]
     generalize Ya P i=ac at *
     simp only[go_sem,XJ,UQ];refine⟨i+1,by omega,(by show R-(i+1)<R-i;omega),GStep.trans (σ₁:=CM) ?_ Y5⟩;rw[Uu,Yx]
     (refine Q7 rfl ?_ ?_ ?_ ?_<;>(try simp only[go_sem,QA,XA])<;>(try simp))
def zfD(l:LL):Prop:=LLok l/\(∀ m∈l.1,m.2.2.length<=9223372036854775807)/\l.2.2.length<=9223372036854775807
def FL2(l:LL):Prop:=(l.1.length<=4/\(iv l.2.1 l.2.2).natAbs<=999)/\∀ m∈l.1,(iv m.2.1 m.2.2).natAbs<=9
instance (l:LL):Decidable (FL2 l):=by unfold FL2;exact inferInstance
theorem zoM(x y:Int)(ha:lN x<=9223372036854775807)(hb:lN y<=9223372036854775807):Q9 prog 25 [eI x,eI y] (tI .i64 (QY x y)):=by
 have:=zwS (decide (x<0)) (dig x.natAbs) (decide (y<0)) (dig y.natAbs) ha hb;rwa[Z2,Z2]at this
theorem zp7{s:Bool}{a:List Nat}(h:a.length<=9223372036854775807):lN ((iv s a).natAbs:Int)<=9223372036854775807:=by
 have h1:=zaX s a;have h2:lN ((iv s a).natAbs:Int)<=lN (iv s a):=zeF (by omega);omega
theorem zq2{x:Nat}{k:Nat}:((0:Int)<QY (x:Int) (k:Int))=(k<x):=by
 unfold QY;apply propext;split
 .omega
 .split<;>omega
theorem zrC(ls:List LL)(k:Int)(hl:ls.length<=maxLen)(h:∀ l∈ls,zfD l):Q9 prog 11 [.one (eL cL ls),tI .i64 k] (tB (decide ((∀ l∈ls,FL2 l)/\ls.length<=8/\k<=4))):=by
 obtain⟨P,hP⟩:∃ P:Prop,P=((∀ l∈ls,FL2 l)/\ls.length<=8/\k<=4):=⟨_,rfl⟩
 obtain⟨pb,Lj⟩:∃ pb:Bool,pb=decide ((∀ l∈ls,FL2 l)/\ls.length<=8/\k<=4):=⟨_,rfl⟩
 rw[<-Lj];have UC:ls.length<=9223372036854775807:=Qn hl (by decide);refine QJ QC call11 func11 rfl ntmps11 results11 (by simp) (by decide) ?_;simp only[go_sem];refine QK (fun i:Nat=>stL 61 [(0,.one (.t (eL cL ls))),(1,litI .i64 k),(5,litI .i64 i)] []) (fun i=>i<=ls.length/\∀ l∈ls.take i,FL2 l) (fun i=>ls.length-i) 0 ?_ ⟨Qk _,by rw[wao];intro m hm;cases hm⟩ ?_
 ·(refine Q7 rfl ?_ ?_ ?_ ?_<;>(try simp only[go_sem,QA])<;>(try simp))
 .rintro i ⟨hi,Yy⟩
  simp only[go_sem];refine QI (fun Yw=>?_) (fun YG=>?_)
  .have Yv:i<ls.length:=by omega
   have Y1:QM cL ls i=cL ls[i]:=Q8 Yv;have Gn:=h _ (Qh Yv);have Xf:¬FL2 ls[i]->pb=false:=fun h=>by rw[Lj];exact wad fun hf=>h (hf.1 _ (Qh Yv))
   have Yx:FL2 ls[i]->∀ l∈ls.take (i+1),FL2 l:=fun h m hm=>by
    rw[Zd Yv]at hm;rcases wan.1 hm with hm|hm
    .exact Yy m hm
    .obtain rfl:=Qr.1 hm;exact h
   have XG:((i:Int)<(ls.length:Int))=True:=Qf (by omega);have Vb:((0:Int)<=(i:Int))=True:=Qf (by omega);generalize ls[i]=l at *
   by_cases c1:l.1.length<=4
   .have c1':((4:Int)<(l.1.length:Int))=False:=Ql (by omega)
    have o1:=zpC l.2.1 l.2.2 Gn.2.2;have o2:Q9 prog 22 [tI .i64 999] (eI ((999:Nat):Int)):=zgI 999 (by decide) (by decide);have l9:lN ((999:Nat):Int)<=1:=zap (by decide);have o3:=zoM ((iv l.2.1 l.2.2).natAbs:Int) ((999:Nat):Int) (zp7 Gn.2.2) (by omega);have ec:=zq2 (x:=(iv l.2.1 l.2.2).natAbs) (k:=999);obtain⟨z,hz⟩:∃ z,z=(iv l.2.1 l.2.2).natAbs:=⟨_,rfl⟩
    rw[<-hz]at o1 o3 ec;generalize Ti:((999:Nat):Int)=z9 at *
    generalize Tj:QY (z:Int) z9=cz at *
    generalize Tk:((z:Nat):Int)=zi at *
    by_cases c2:z<=999
    .have c2':((0:Int)<cz)=False:=Ql (by rw[ec];omega)
     simp only[go_sem,Y1,XG,Vb,c1']
     (repeat(refine Qg (by omega) ?_))
     refine Q3 o1 rfl ?_;simp only[go_sem];refine Q3 o2 rfl ?_;simp only[go_sem];refine Q3 o3 rfl ?_;simp only[go_sem,c2'];refine QK (fun j:Nat=>stL 61 [(0,.one (.t (eL cL ls))),(1,litI .i64 k),(5,litI .i64 i),(6,litI .i64 j)] []) (fun j=>j<=l.1.length/\∀ m∈l.1.take j,(iv m.2.1 m.2.2).natAbs<=9) (fun j=>l.1.length-j) 0 ?_ ⟨Qk _,by rw[wao];intro m hm;cases hm⟩ ?_
     ·(refine Q7 rfl ?_ ?_ ?_ ?_<;>(try simp only[go_sem,QA])<;>(try simp))
     .rintro j ⟨hj,Y8⟩
      simp only[go_sem,Y1,XG,Vb]
      (repeat(refine Qg (by omega) ?_))
      refine QI (fun YS=>?_) (fun Wt=>?_)
      .have Y2:j<l.1.length:=by omega
       have Ue:QM cM l.1 j=cM l.1[j]:=Q8 Y2;have MN:=Gn.2.1 _ (Qh Y2);have RJ:¬(iv l.1[j].2.1 l.1[j].2.2).natAbs<=9->pb=false:=fun h=>Xf fun hf=>h (hf.2 _ (Qh Y2))
       have DS:(iv l.1[j].2.1 l.1[j].2.2).natAbs<=9->∀ m∈l.1.take (j+1),(iv m.2.1 m.2.2).natAbs<=9:=fun h m hm=>by
        rw[Zd Y2]at hm;rcases wan.1 hm with hm|hm
        .exact Y8 m hm
        .obtain rfl:=Qr.1 hm;exact h
       have XY:((j:Int)<(l.1.length:Int))=True:=Qf (by omega);have VB:((0:Int)<=(j:Int))=True:=Qf (by omega);generalize l.1[j]=m at *
       have p1:=zpC m.2.1 m.2.2 MN;have p2:Q9 prog 22 [tI .i64 9] (eI ((9:Nat):Int)):=zgI 9 (by decide) (by decide);have l9:lN ((9:Nat):Int)<=1:=zap (by decide);have p3:=zoM ((iv m.2.1 m.2.2).natAbs:Int) ((9:Nat):Int) (zp7 MN) (by omega);have ecm:=zq2 (x:=(iv m.2.1 m.2.2).natAbs) (k:=9);obtain⟨y,hy⟩:∃ y,y=(iv m.2.1 m.2.2).natAbs:=⟨_,rfl⟩
       rw[<-hy]at p1 p3 ecm RJ DS;generalize Tl:((9:Nat):Int)=y9 at *
       generalize Nk:QY (y:Int) y9=cy at *
       generalize Wd:((y:Nat):Int)=yi at *
       simp only[go_sem,Y1,XG,Vb,Ue,XY,VB]
       (repeat(refine Qg (by omega) ?_))
       refine Q3 p1 rfl ?_;simp only[go_sem];refine Q3 p2 rfl ?_;simp only[go_sem];refine Q3 p3 rfl ?_;by_cases c3:y<=9
       .have c3':((0:Int)<cy)=False:=Ql (by rw[ecm];omega)
        simp only[go_sem,c3'];refine⟨j+1,⟨Y2,DS c3⟩,(by show l.1.length-(j+1)<l.1.length-j;omega),?_⟩
        (refine Q7 rfl ?_ ?_ ?_ ?_<;>(try simp only[go_sem,QA,Q6 (n:=(j:Int)+1) (by omega) (by omega)])<;>(try simp))
       .have c3':((0:Int)<cy)=True:=Qf (by rw[ecm];omega)
        rw[RJ c3];simp only[go_sem,c3'];try rfl
      .obtain rfl:j=l.1.length:=by omega
       rw[Q1]at Y8;simp only[go_sem];refine⟨i+1,⟨Yv,Yx ⟨⟨c1,by rw[<-hz];exact c2⟩,Y8⟩⟩,(by show ls.length-(i+1)<ls.length-i;omega),?_⟩
       (refine Q7 rfl ?_ ?_ ?_ ?_<;>(try simp only[go_sem,QA,Q6 (n:=(i:Int)+1) (by omega) (by omega)])<;>(try simp))
    .have c2':((0:Int)<cz)=True:=Qf (by rw[ec];omega)
     rw[Xf fun h=>c2 (by rw[hz];exact h.1.2)];simp only[go_sem,Y1,XG,Vb,c1']
     (repeat(refine Qg (by omega) ?_))
     refine Q3 o1 rfl ?_;simp only[go_sem];refine Q3 o2 rfl ?_;simp only[go_sem];refine Q3 o3 rfl ?_;simp only[go_sem,c2'];try rfl
   .have c1':((4:Int)<(l.1.length:Int))=True:=Qf (by omega)
    rw[Xf fun h=>c1 h.1.1];simp only[go_sem,Y1,XG,Vb,c1']
    (repeat(refine Qg (by omega) ?_))
    try rfl
  .obtain rfl:i=ls.length:=by omega
   rw[Q1]at Yy;have e:pb=decide (ls.length<=8/\k<=4):=by rw[Lj];exact wax.2 ⟨fun h=>h.2,fun h=>⟨Yy,h⟩⟩
   rw[e];simp only[go_sem];by_cases c1:ls.length<=8
   .have c1':((ls.length:Int)<=8)=True:=Qf (by omega)
    simp only[go_sem,c1'];rw[wax];omega
   .have c1':((ls.length:Int)<=8)=False:=Ql (by omega)
    simp only[go_sem,c1'];symm;exact wad fun h=>c1 h.1
theorem ztC{f:Fm}{n:Nat}(h:∀ m∈f.1,m.1<n)(hne:(ZP f).1≠[]):zdY (ZP f)<n:=by
 unfold zdY;rw[zfZ hne];show((ZP f).1[(ZP f).1.length-1]'_).1<(n:Int);have hm:=Qh (l:=(ZP f).1) (n:=(ZP f).1.length-1) (by have:=wa6.2 hne;omega);obtain⟨m,E8,e⟩:=Qp.1 (show _∈f.1.map eMn from hm);rw[<-e];have:=h m E8;show((m.1:Nat):Int)<(n:Int);omega
theorem zu7(ls:List Fm){n:Nat}(hn:n<=40)(hl:ls.length<=60)(h:∀ f∈ls,Fv n 1 1 f):Q9 prog 30 [.one (eL cF ls),tI .i64 n] (tI .i64 0):=by
 have hw:=zn8 (ls.map ZP) n (by omega) (by omega) (by rw[Qm];omega) fun l hm=>by
  obtain⟨f,hf,rfl⟩:=Qp.1 hm;have hF:=h f hf;have hb:=zbS (hF.bd (L:=1) (by omega) (Qd _) (Qd _));have JA:(ZP f).1.length<=n:=hb.1;exact⟨by omega,fun m hm=>⟨by have:=(hb.2.1 m hm).2;omega,(hb.2.1 m hm).1⟩,by have:=hb.2.2;omega⟩
 rw[zlt]at hw;have e:zd7 (ls.map ZP) (n:Int)=0:=by
  unfold zd7;rw[Qb (by rw[Qm];omega),Qb];rintro(⟨l,hm,hb⟩|hb)
  .obtain⟨f,hf,rfl⟩:=Qp.1 hm
   have hF:=h f hf;rcases hb with hb|hb|⟨h1,h2⟩
   .exact hb (zpn hF.wf)
   .omega
   .have:=ztC hF.lt h1;omega
  .omega
 rw[e]at hw;exact hw
theorem zhu(ls:List Fm){n:Nat}(hn:n<=4)(hl:ls.length<=8)(h:∀ f∈ls,Fv n 1 1 f):∃ o,zbE ls n 840000000 o/\Q9 prog 13 [.one (eL cF ls),tI .i64 n] (.tup [xT n o,tB o.isSome,tI .i64 0]):=by
 obtain⟨o,h1,h2⟩:=zoU ls n hn h hl;exact⟨o,h1,ztn ls n (zu7 ls (by omega) (by omega) h) h2⟩
theorem zqE{n:Nat}{p:Nat->Int}{v:Nat}(hv:v<n):ptX (fnG n fun j=>Ys (p j)) v=p v:=by
 unfold ptX;rw[waa (by rw[Zc];exact hv),za2];exact zhz _
theorem allX(ls:List Fm){n:Nat}(hn:n<=4)(hl:ls.length<=60)(h:∀ f∈ls,Fv n 1 1 f)(p:Nat->Int)(hp:∀ v,v<n->lN (p v)<=840000000):Q9 prog 15 [.one (eL cF ls),.one (eL cJ (fnG n p))] (tB (decide (∀ f∈ls,atF f p<=0))):=by
 have ha:=zqv (ls.map ZP) (fnG n fun j=>Ys (p j)) (N:=4) (L:=1) (K:=840000000) (by decide) (by decide) (by decide) (by rw[Qm];omega) (fun l hm=>by
  obtain⟨f,hf,rfl⟩:=Qp.1 hm;have hb:=zbS ((h f hf).bd (L:=1) (by omega) (Qd _) (Qd _));exact⟨by have:=hb.1;have h2:=zft (h f hf).wf (h f hf).lt;show(f.1.map eMn).length<=4;rw[Qm];omega,hb.2⟩) (by rw[Zc];omega) (fun q hq=>by
   obtain⟨i,hi,rfl⟩:=zeq hq;exact hp i hi)
 rw[zlt]at ha;have e1:tLI (fnG n fun j=>Ys (p j)) = .one (eL cJ (fnG n p)):=by rw[zqF]
 rw[e1]at ha;refine zw7 ha ⟨fun h1 f hf=>?_,fun h1 l hm=>?_⟩
 .have h2:=h1 (ZP f) (Qp.2 ⟨f,hf,rfl⟩)
  rw[zbR (h f hf).wf]at h2
  rwa[zgk (f:=f) (q:=p) fun m hm=>zqE ((h f hf).lt m hm)]at h2
 .obtain⟨f,hf,rfl⟩:=Qp.1 hm
  rw[zbR (h f hf).wf,zgk (f:=f) (q:=p) fun m hm=>zqE ((h f hf).lt m hm)];exact h1 f hf
theorem zhv(c k:Int)(hc:c≠0)(h1 : -1000000000<c/\c<1000000000)(h2 : -1000000000<k/\k<1000000000):Q9 prog 17 [tI .i64 c,tI .i64 k] (eF (lF c k)):=by
 refine QJ QC call17 func17 rfl ntmps17 results17 (by simp) (by decide) ?_;have lc:lN c<=1:=zap (by omega);have lk:lN k<=1:=zap (by omega);have o1:=zgI c (by omega) (by omega);have o2:=zgI k (by omega) (by omega);have v0:Q9 prog 18 [tI .i64 0] (eF (Z7 0)):=zyy 0 (by decide) (by decide);have w0:WF (Z7 0):=zjo 0;have b0:Bd 1 1 (Z7 0):=ztZ (by decide) (zap (by decide)) (by rw[ZI];omega);have sc:=zsO (Z7 0) c (by decide) (by decide) w0 b0 (by omega);have wS:=zbC w0 c;have bS:=zhH b0 c;have co:=zsX k (by omega);have ad:=zui (scF (Z7 0) c) (Ze k) (N:=2) (L:=2) (by decide) (by decide) wS (zej k) (bS.mono (by decide) (by omega)) ⟨Qk _,(fun m hm=>by cases hm),by show lN k<=2;omega⟩;rw[zwK hc]at ad;generalize scF (Z7 0) c=S at *
 generalize Z7 0=V0 at *
 generalize Ze k=C at *
 generalize lF c k=F at *
 simp only[go_sem];((repeat(refine Q4 0 rfl ?_;simp only[go_sem]));refine Q3 (v0) rfl ?_;simp only[go_sem];(repeat(refine Q4 0 rfl ?_;simp only[go_sem]));refine Q3 (o1) rfl ?_;simp only[go_sem];(repeat(refine Q4 0 rfl ?_;simp only[go_sem]));refine Q3 (sc) rfl ?_;simp only[go_sem];(repeat(refine Q4 0 rfl ?_;simp only[go_sem]));refine Q3 (o2) rfl ?_;simp only[go_sem];(repeat(refine Q4 0 rfl ?_;simp only[go_sem]));refine Q3 (co) rfl ?_;simp only[go_sem];(repeat(refine Q4 0 rfl ?_;simp only[go_sem]));refine Q3 (ad) rfl ?_;simp only[go_sem];(repeat(refine Q4 0 rfl ?_;simp only[go_sem])));exact Zt .t .t .t
theorem zhM{c k:Int}(hc:c≠0)(h1 : -1000000000<c/\c<1000000000)(h2 : -1000000000<k/\k<1000000000):Fv 1 1 1 (lF c k) :=
 ⟨zt0 hc,fun m hm=>by rw[Qr.1 hm];exact Nat.zero_lt_one,fun m hm=>by rw[Qr.1 hm];show lN c<=1;exact zap (by omega),by show lN k<=1;exact zap (by omega)⟩
theorem zd1(c k:Int)(p:Nat->Int):atF (lF c k) p=k+c*p 0:=zt1 0 c k p
theorem zqp{ls:List Fm}{n C K:Nat}(h:∀ f∈ls,Fv n C K f){c:List Nat}(hc:∀ i∈c,i<ls.length):∀ f∈pkF ls c,Fv n C K f:=fun f hf=>by
 obtain⟨i,hi,rfl⟩:=Qp.1 hf;rw[waC,waa (hc i hi)];exact h _ (Qh _)
theorem zlg(ls:List Fm)(c:List Nat):(pkF ls c).length=c.length:=Qm _
theorem zrj(hD:ze6)(ls:List Fm){n:Nat}(hn:n<=4)(hl:ls.length<=8)(h:∀ f∈ls,Fv n 1 1 f)(hu:∀ p,¬Sat ls p) :
  ∃ c,zaU ls c c.length/\Q9 prog 16 [.one (eL cF ls),tI .i64 n] (.tup [.one (eL cI1 c),tI .i64 0]):=by
 obtain⟨o,h1,h2⟩:=zhu ls hn hl h;cases o with
 |some p=>exact Qo h1.1 (hu p)
 |none =>
  have YP:∀ c:List Nat,(∀ i∈c,i<ls.length)->c.length<=ls.length->zbq (pkF ls c) n 840000000:=fun c hc YW=>zoU (pkF ls c) n hn (zqp h hc) (by rw[zlg];omega)
  rcases zoK ls n (C:=1) (K:=1) hn (by omega) h (by decide)with⟨x,_,_,hs,_⟩|⟨g,UF,Wc,Oy,hs⟩
  .exact zoo hD ls n (okb:=true) (g:=[]) (P:=fun _=>true) (G:=0) (by omega) (by omega) (.inl ⟨rfl,rfl⟩) (fun q hq=>by cases hq) (by decide) h2 hs (fun p hp=>hu p (zwi hp)) YP
  .exact zoo hD ls n (okb:=false) (g:=g) (P:=fun i=>decide (0<(g.getD i 0).num)) (G:=4*1+1+6) (by omega) (by omega) (.inr ⟨rfl,rfl,UF,rfl⟩) Wc (by decide) h2 hs (zwj Oy h) YP
theorem zuv{f g h:Fm}{c:List Nat}(hc:zaU [f,g,h] c c.length)(h1:∃ p,Sat [f] p)(h2:∃ p,Sat [g] p)(h3:∃ p,Sat [h] p)(h4:∀ p,¬Sat [g,h] p):c.length=2:=by
 obtain⟨a1,a2,a3,_,a5⟩:=hc
 match c,a1,a2,a3,a5 with
 |[],_,_,a3,_=>exact Qo (fun f hf=>by cases hf) (a3 fun _=>0)
 |[i],_,a2,a3,_ =>
  have hi:i<3:=a2 i wam;have hk:i=0\/i=1\/i=2:=by omega
  rcases hk with rfl|rfl|rfl
  .obtain⟨p,hp⟩:=h1;exact Qo hp (a3 p)
  .obtain⟨p,hp⟩:=h2;exact Qo hp (a3 p)
  .obtain⟨p,hp⟩:=h3;exact Qo hp (a3 p)
 |[_,_],_,_,_,_=>rfl
 |i::j::k::r,a1,a2,_,a5 =>
  have e1:=(wbL.1 a1).1;have e2:=(wbL.1 (wbL.1 a1).2).1;have b1:=e1 j wam;have b2:=e2 k wam;have b3:k<3:=a2 k (waj _ (waj _ wam));obtain rfl:i=0:=by omega
  obtain rfl:j=1:=by omega
  obtain rfl:k=2:=by omega
  obtain⟨p,hp⟩:=a5 0 (by simp);refine Qo (fun x hx=>hp x ?_) (h4 p);show x∈g::h::_;rcases wab.1 hx with rfl|hx
  .exact wam
  .obtain rfl:=Qr.1 hx;exact waj _ wam
theorem zlh{f g:Fm}{p:Nat->Int}:Sat [f,g] p↔atF f p<=0/\atF g p<=0:=by
 rw[Sat.cons,Sat.cons];exact⟨fun h=>⟨h.1,h.2.1⟩,fun h=>⟨h.1,h.2,Sat.nil⟩⟩
theorem zli{f:Fm}{p:Nat->Int}:Sat [f] p↔atF f p<=0:=by
 rw[Sat.cons];exact⟨fun h=>h.1,fun h=>⟨h,Sat.nil⟩⟩
theorem zph(hD:ze6):Q9 prog 10 [] (tB true):=by
 have v1:=zhM (c:=2) (k:=-5) (by decide) (by decide) (by decide);have v2:=zhM (c:=-2) (k:=3) (by decide) (by decide) (by decide);have v3:=zhM (c:=2) (k:=-1) (by decide) (by decide) (by decide);have v4:=zhM (c:=-2) (k:=1) (by decide) (by decide) (by decide);have v5:=zhM (c:=1) (k:=0) (by decide) (by decide) (by decide);have f1:=zhv 2 (-5) (by decide) (by decide) (by decide);have f2:=zhv (-2) 3 (by decide) (by decide) (by decide);have f3:=zhv 2 (-1) (by decide) (by decide) (by decide);have f4:=zhv (-2) 1 (by decide) (by decide) (by decide);have f5:=zhv 1 0 (by decide) (by decide) (by decide);obtain⟨oA,tA,hA⟩:=zhu [lF 2 (-5),lF (-2) 3] (n:=1) (by decide) (by decide) (Q2.2 ⟨v1,Q2.2 ⟨v2,fun f hf=>by cases hf⟩⟩);obtain⟨oB,tBB,hB⟩:=zhu [lF 2 (-1),lF (-2) 1] (n:=1) (by decide) (by decide) (Q2.2 ⟨v3,Q2.2 ⟨v4,fun f hf=>by cases hf⟩⟩);have X9:∀ p,¬Sat [lF 2 (-1),lF (-2) 1] p:=fun p hp=>by
  have:=zlh.1 hp;rw[zd1,zd1]at this;omega
 obtain⟨c,hc,hC⟩:=zrj hD [lF 1 0,lF 2 (-1),lF (-2) 1] (n:=1) (by decide) (by decide) (Q2.2 ⟨v5,Q2.2 ⟨v3,Q2.2 ⟨v4,fun f hf=>by cases hf⟩⟩⟩) (fun p hp=>X9 p (Sat.cons.1 hp).2);have YW:=zuv hc ⟨fun _=>0,zli.2 (by rw[zd1];decide)⟩ ⟨fun _=>0,zli.2 (by rw[zd1];decide)⟩ ⟨fun _=>1,zli.2 (by rw[zd1];decide)⟩ X9;obtain⟨i,j,rfl⟩:∃ i j,c=[i,j]:=by
  match c,YW with
  |[i,j],_=>exact⟨i,j,rfl⟩
 have hE:=znl [] (-1) 10 (by decide) (zn8 [] (-1) (by decide) (by decide) (by simp) (fun l hl=>by cases hl));have o1:Q9 prog 22 [tI .i64 2] (eI 2):=zgI 2 (by decide) (by decide);have l2:lN 2<=1:=zap (by decide);have q1:=zbV (zs9 2 2 (by omega) (by omega)) rfl;cases oB with
 |some p=>exact Qo tBB.1 (X9 p)
 |none =>
  cases oA with
  |none=>exact Qo (zlh.2 (by rw[zd1,zd1];decide)) (tA fun _=>2)
  |some p =>
   have KJ:p 0=2:=by
    have:=zlh.1 tA.1;rw[zd1,zd1]at this;omega
   have L2:xT 1 (some p) = .one (eL cJ [2]):=by
    show TV.one (eL cJ [p 0])=_;rw[KJ]
   rw[L2]at hA;clear tA tBB X9 hc YW v1 v2 v3 v4 v5 KJ L2;have hA:=hA.tw (tvs':=[.one (.seq (some false) [cF (lF 2 (-5)),cF (lF (-2) 3)]),tI .i64 1]) (.cons (.one .weak) (.cons TVW.refl1 .nil));have hB:=hB.tw (tvs':=[.one (.seq (some false) [cF (lF 2 (-1)),cF (lF (-2) 1)]),tI .i64 1]) (.cons (.one .weak) (.cons TVW.refl1 .nil));have hC:=hC.tw (tvs':=[.one (.seq (some false) [cF (lF 1 0),cF (lF 2 (-1)),cF (lF (-2) 1)]),tI .i64 1]) (.cons (.one .weak) (.cons TVW.refl1 .nil));have hE:=hE.tw (tvs':=[.one (.seq (some true) []),tI .i64 (-1)]) (.cons (.one .weak) (.cons TVW.refl1 .nil));refine QJ QC call10 func10 rfl ntmps10 results10 (by simp) (by decide) ?_;unfold xT at hB;generalize lF 2 (-5)=F1 at *
   generalize lF (-2) 3=F2 at *
   generalize lF 2 (-1)=F3 at *
   generalize lF (-2) 1=F4 at *
   generalize lF 1 0=F5 at *
   simp only[go_sem];((repeat(refine Q4 0 rfl ?_;simp only[go_sem]));refine Q3 (f1) rfl ?_;simp only[go_sem];(repeat(refine Q4 0 rfl ?_;simp only[go_sem]));refine Q3 (f2) rfl ?_;simp only[go_sem];(repeat(refine Q4 0 rfl ?_;simp only[go_sem]));refine Q3 (hA) rfl ?_;simp only[go_sem];(repeat(refine Q4 0 rfl ?_;simp only[go_sem]));refine Q3 (f3) rfl ?_;simp only[go_sem];(repeat(refine Q4 0 rfl ?_;simp only[go_sem]));refine Q3 (f4) rfl ?_;simp only[go_sem];(repeat(refine Q4 0 rfl ?_;simp only[go_sem]));refine Q3 (hB) rfl ?_;simp only[go_sem];(repeat(refine Q4 0 rfl ?_;simp only[go_sem]));refine Q3 (f5) rfl ?_;simp only[go_sem];(repeat(refine Q4 0 rfl ?_;simp only[go_sem]));refine Q3 (f3) rfl ?_;simp only[go_sem];(repeat(refine Q4 0 rfl ?_;simp only[go_sem]));refine Q3 (f4) rfl ?_;simp only[go_sem];(repeat(refine Q4 0 rfl ?_;simp only[go_sem]));refine Q3 (hC) rfl ?_;simp only[go_sem];(repeat(refine Q4 0 rfl ?_;simp only[go_sem]));refine Q3 (hE) rfl ?_;simp only[go_sem];(repeat(refine Q4 0 rfl ?_;simp only[go_sem]));refine Q3 (o1) rfl ?_;simp only[go_sem];(repeat(refine Q4 0 rfl ?_;simp only[go_sem]));refine Q3 (q1) rfl ?_;simp only[go_sem];(repeat(refine Q4 0 rfl ?_;simp only[go_sem])))
end Go.Proofs.YtlgjjcmljmjenaaGreat
