/- At every input the call answers true and leaves its arguments as they were; no conditions. -/
import Derived.Test.YtlgjjcmljmjenaaGreatDa
import Derived.Test.YtlgjjcmljmjenaaGreatAh
set_option linter.unusedSimpArgs false
set_option linter.unusedVariables false
set_option maxRecDepth 100000
set_option maxHeartbeats 32000000
namespace Go.Proofs.YtlgjjcmljmjenaaGreat
open Go Go.Abs Go.Proofs.Tryz
def aOf(ls:List Fm)(i j:Nat):Rat:=(coM (ls.getD i ([],0)).1 j:Rat)
def moF(ls:List Fm)(i:Nat):Rat:=((-(ls.getD i ([],0)).2:Int):Rat)
def zcR(ls:List Fm)(n:Nat):SX:=zlX (aOf ls) n ls.length (moF ls)
theorem zuw{b sz len n c:Nat}(h:∀ i,i<n->b+i≠c):(rowsC b sz len n).map (jC c)=rowsC b sz len n:=by
 unfold rowsC;rw[wac];exact wau fun i hi=>by show(if b+i=c then C.t .junk else C.vec (b+i) sz 0 len)=_;rw[Qb (h i (waJ.1 hi))]
theorem ztg{b sz len n:Nat}{g:C->C}(h:∀ i,i<n->g (.vec (b+i) sz 0 len) = .vec (b+i) sz 0 len):(rowsC b sz len n).map g=rowsC b sz len n:=by
 unfold rowsC;rw[wac];exact wau fun i hi=>h i (waJ.1 hi)
theorem zqq{b i len:Nat}(h:b<900100):jC b (C.vec (900100+i) 3 0 len)=C.vec (900100+i) 3 0 len:=by show(if 900100+i=b then _ else _)=_;rw[Qb (by omega)]
theorem zxS{m i len:Nat}:rnC (mvN 66 (900100+m)) (C.vec (900100+i) 3 0 len)=C.vec (900100+i) 3 0 len:=by show C.vec (if 900100+i=66 then _ else _) _ _ _=_;rw[Qb (by omega)]
theorem zy1{i t:Nat}(h:t<900100):(t=900100+i)=False:=Ql (by omega)
theorem zbG{i t:Nat}(h:t<900100):(900100+i=t)=False:=Ql (by omega)
theorem zxT(a:List LL)(n:Nat){N L:Nat}(hd:n+a.length<90000)(hN:N<=1000000)(hL:L<=1000000000)(ha:∀ l∈a,BL N L l) :
  zbX prog 56 [.one (eL cL a),tI .i64 n] (QB (Zp 900000 (zcR (a.map lv) n))) (.one (.ptr 900000 0)):=by
 refine zcp QC call56 func56 rfl ntmps56 results56 (by simp) (by decide) ?_ ?_ ?_
 .exact zb9 (zkP 900000 _)
 .show QB (Zp 900000 _) 900000≠none
  rw[Ne,zbi,zf0];intro h;exact h (by simp)
 .have z:=zl3
  simp only[go_sem];refine QK (fun i:Nat=>stL 139 [(0,.one (.t (eL cL a))),(1,litI .i64 n),(5,.one (.ptr 900000 0)),(17,litI .i64 n),(18,litI .i64 i)]
   (Zb 900002 cI1 (fnG i fun j=>j)++[(900000,[(.t (.seq (some true) [])),QX 900002 1 (fnG i fun j=>j),(.t (.seq (some true) [])),.t (.lit (.int .i64 (n:Int))),(.t (.seq (some true) [])),(.t (.seq (some true) []))])])) (fun i=>i<=n) (fun i=>n-i) 0 ?_ (Qk _) ?_
  .rw[zuk]
   refine GStep.trans (zc6 (b:=16) (b':=900000) (by simp only[go_sem]) (by decide) (by decide)) ?_
   (refine Q7 rfl ?_ ?_ ?_ ?_<;>(try simp only[go_sem])<;>(try simp only[Qy,Qv,Qw,Qu]))
  .intro i hi
   simp only[go_sem];refine QI (fun Yw=>?_) (fun YG=>?_)
   .have Yv:i<n:=by omega
    have Yx:=zkE (n:=i) (g:=fun j:Nat=>j);have YZ:(fnG i fun j:Nat=>j).length=i:=Zc;generalize hl:(fnG i fun j:Nat=>j)=xs at *
    simp only[go_sem,Yw];refine ZC (sz:=1) (bytes:=8) (by simp only[go_sem,QV]<;>decide) ZW xs [i] (b:=900002) (by simp only[go_sem]<;>rfl) (by simp only[go_sem]<;>rfl) (by simp only[go_sem]<;>rfl) rfl (by simp) (by simp only[Qe,Qi]at *;omega) (by decide) ?_;simp only[go_sem];refine⟨i+1,Yv,(by show n-(i+1)<n-i;omega),?_⟩
    (refine Q7 rfl ?_ ?_ ?_ ?_<;>(try simp only[go_sem,Yx,Q6 (n:=(i:Int)+1) (by omega) (by omega)])<;>(try simp))
   .obtain rfl:n=i:=by omega
    have XA:IntKind.i64.wrap ((n:Int)+(a.length:Int))=((n+a.length:Nat):Int):=by rw[Q6 (by omega) (by omega)];omega
    obtain⟨M,hM⟩:∃ M,M=n+a.length:=⟨_,rfl⟩
    rw[<-hM]at XA;simp only[go_sem,XA]
    (repeat(refine Qg (by omega) ?_))
    refine QK (fun k:Nat=>stL 139 [(0,.one (.t (eL cL a))),(1,litI .i64 n),(5,.one (.ptr 900000 0)),(45,.one (.vec 900005 3 0 M)),(46,litI .i64 M),(47,litI .i64 k)]
     (Zb 900002 cI1 (fnG n fun j=>j)++[(900000,[.t (.seq (some true) []),QX 900002 1 (fnG n fun j=>j),.t (.seq (some true) []),.t (.lit (.int .i64 (n:Int))),.t (.seq (some true) []),.vec 900005 3 0 M]),(900005,Q5 cZ (((fnG M fun _=>(0:Rat)).take k).map some++List.replicate (M-k) none))])) (fun k=>k<=M) (fun k=>M-k) 0 ?_ (Qk _) ?_
    .rw[wao,wbI,waH,wbw]
     refine GStep.trans (zar 39 (cs:=Zg M z3) (by simp only[go_sem]<;>rfl) (ze1 _)) ?_;refine GStep.trans (zc6 (b:=39) (b':=900005) (by simp only[go_sem]) (by decide) (by decide)) ?_
     (refine Q7 rfl ?_ ?_ ?_ ?_<;>(try simp only[go_sem,QH])<;>(try simp))
    .intro k hk
     simp only[go_sem];refine QI (fun XR=>?_) (fun GB=>?_)
     .have YV:k<M:=by omega
      have Y0:(fnG M fun _=>(0:Rat)).length=M:=Zc;have Wl:(((fnG M fun _=>(0:Rat)).take k).map some++List.replicate (M-k) none).length=M:=by simp[Zc];omega
      have Yx:=zfR (l:=fnG M fun _=>(0:Rat)) (n:=M) (i:=k) (by rw[Y0];exact YV) (by omega);rw[za2]at Yx;generalize ((fnG M fun _=>(0:Rat)).take k).map some++List.replicate (M-k) none=ys at *
      have VW:=zgC (ys:=ys) (i:=k) (by omega) (q:=0);rw[Yx]at VW;simp only[go_sem,XR];refine Q4 0 rfl ?_;simp only[go_sem];((repeat(refine Q4 0 rfl ?_;simp only[go_sem,XR]));refine Q3 (z) rfl ?_;simp only[go_sem,XR];(repeat(refine Q4 0 rfl ?_;simp only[go_sem,XR])));simp only[go_sem,zgg]
      (repeat(refine Qg (by omega) ?_))
      refine⟨k+1,YV,(by show M-(k+1)<M-k;omega),?_⟩
      (refine Q7 rfl ?_ ?_ ?_ ?_<;>(try simp only[go_sem,QH,VW,Q6 (n:=(k:Int)+1) (by omega) (by omega)])<;>(try simp))
     .obtain rfl:M=k:=by omega
      rw[waL (by rw[Zc];exact Qd _),wbl,wbX,wal,zgw];obtain⟨ls,YU⟩:∃ ls,ls=a.map lv:=⟨_,rfl⟩
      obtain⟨Xr,Ep⟩:∃ Xr:Nat->List Nat,Xr=fun i=>fnG i (fun j=>n+j):=⟨_,rfl⟩
      obtain⟨Xm,Er⟩:∃ Xm:Nat->List Rat,Xm=fun i=>fnG i (moF ls):=⟨_,rfl⟩
      obtain⟨Fa,L3⟩:∃ Fa:Nat->List Rat,Fa=fun m=>fnG n (aOf ls m):=⟨_,rfl⟩
      have Fs:Xr 0=[]:=by rw[Ep];rfl
      have Ft:Xm 0=[]:=by rw[Er];rfl
      have Fu:∀ i,(Xr i).length=i:=fun i=>by rw[Ep];exact Zc
      have Fw:∀ i,(Xm i).length=i:=fun i=>by rw[Er];exact Zc
      have Fx:∀ i,Xr (i+1)=Xr i++[n+i]:=fun i=>by rw[Ep];exact zkE
      have Fy:∀ i,Xm (i+1)=Xm i++[moF ls i]:=fun i=>by rw[Er];exact zkE
      generalize NV:(fnG n fun j:Nat=>j)=xc at *
      have S3:∃ xz,xz=Q5 cR (fnG M fun _=>(0:Rat)):=⟨_,rfl⟩
      obtain⟨zs,VG⟩:∃ zs,zs=fnG M fun _=>(0:Rat):=⟨_,rfl⟩
      rw[<-VG];simp only[go_sem];refine QK (fun i:Nat=>stL 139 [(0,.one (.t (eL cL a))),(1,litI .i64 n),(5,.one (.ptr 900000 0)),(58,.one (.t (eL cL a))),(59,litI .i64 a.length),(60,litI .i64 i)]
       (zae 900100 cR Fa i++(Zb 900001 cI1 (Xr i)++(Zb 900002 cI1 xc++(cvE 900003 i (rowsC 900100 3 n i)++(Zb 900004 cR (Xm i)++[(900000,[QX 900001 1 (Xr i),QX 900002 1 xc,cvC 900003 i,.t (.lit (.int .i64 (n:Int))),QX 900004 3 (Xm i),.vec 900005 3 0 M]),(900005,Q5 cR zs)])))))) (fun i=>i<=a.length) (fun i=>a.length-i) 0 ?_ (Qk _) ?_
      .rw[Fs,Ft]
       (refine Q7 rfl ?_ ?_ ?_ ?_<;>(try simp only[go_sem,QH])<;>(try simp))
      .intro m hm
       simp only[go_sem];refine QI (fun KM=>?_) (fun UG=>?_)
       .have Xo:m<a.length:=by omega
        have Y1:QM cL a m=cL a[m]:=Q8 Xo;have hb:=ha _ (Qh Xo);have YJ:=zbp hb;have Es:=zjH a[m];have Oz:=zyC a[m] hN (by omega) hb;have UE:ls.getD m ([],0)=lv a[m]:=by rw[YU,waC,List.getElem?_map,waa Xo];rfl
        have Fz:Fa m=fnG n fun v=>(coM (lv a[m]).1 v:Rat):=by
         rw[L3];show fnG n (aOf ls m)=_;exact Yk fun v _=>by unfold aOf;rw[UE]
        have WZ:moF ls m=((-(lv a[m]).2:Int):Rat):=by unfold moF;rw[UE]
        have YT:=Fu m;have RZ:=Fw m;generalize a[m]=l at *
        generalize lv l=f at *
        simp only[go_sem,Y1,KM];refine⟨by omega,by omega,?_⟩;have Rn:IntKind.i64.wrap ((n:Int)+(m:Int))=((n+m:Nat):Int):=by rw[Q6 (by omega) (by omega)];omega
        refine QK (fun j:Nat=>stL 139 [(0,.one (.t (eL cL a))),(1,litI .i64 n),(5,.one (.ptr 900000 0)),(58,.one (.t (eL cL a))),(59,litI .i64 a.length),(60,litI .i64 m),(8,litI .i64 m),(9,.one (.ptr 9 0)),(10,.one (.vec 66 3 0 n)),(67,.one (.vec 66 3 0 n)),(68,litI .i64 n),(69,litI .i64 j)]
         (zae 900100 cR Fa m++(Zb 900001 cI1 (Xr m)++(Zb 900002 cI1 xc++(cvE 900003 m (rowsC 900100 3 n m)++(Zb 900004 cR (Xm m)++[(900000,[QX 900001 1 (Xr m),QX 900002 1 xc,cvC 900003 m,.t (.lit (.int .i64 (n:Int))),QX 900004 3 (Xm m),.vec 900005 3 0 M]),(900005,Q5 cR zs),(9,(cL l).map .t),(66,Q5 cZ (((fnG n fun _=>(0:Rat)).take j).map some++List.replicate (n-j) none))])))))) (fun j=>j<=n) (fun j=>n-j) 0 ?_ (Qk _) ?_
        .rw[wao,wbI,waH,wbw]
         refine GStep.trans (zar 66 (cs:=Zg n z3) (by simp only[go_sem]<;>rfl) (ze1 _)) ?_
         (refine Q7 rfl ?_ ?_ ?_ ?_<;>(try simp only[go_sem,QH,zbG])<;>(try simp))
         all_goals omega
        .intro j hj
         simp only[go_sem];refine QI (fun VH=>?_) (fun L4=>?_)
         .have XL:j<n:=by omega
          have Y0:(fnG n fun _=>(0:Rat)).length=n:=Zc;have Wl:(((fnG n fun _=>(0:Rat)).take j).map some++List.replicate (n-j) none).length=n:=by simp[Zc];omega
          have Yx:=zfR (l:=fnG n fun _=>(0:Rat)) (n:=n) (i:=j) (by rw[Y0];exact XL) (by omega);rw[za2]at Yx;generalize ((fnG n fun _=>(0:Rat)).take j).map some++List.replicate (n-j) none=ys at *
          have VW:=zgC (ys:=ys) (i:=j) (by omega) (q:=0);rw[Yx]at VW;simp only[go_sem,VH];((repeat(refine Q4 0 rfl ?_;simp only[go_sem,VH]));refine Q3 (z) rfl ?_;simp only[go_sem,VH];(repeat(refine Q4 0 rfl ?_;simp only[go_sem,VH])));simp only[go_sem,zgg]
          (repeat(refine Qg (by omega) ?_))
          refine⟨j+1,XL,(by show n-(j+1)<n-j;omega),?_⟩
          (refine Q7 rfl ?_ ?_ ?_ ?_<;>(try simp only[go_sem,QH,VW,zbG,Q6 (n:=(j:Int)+1) (by omega) (by omega)])<;>(try simp))
          all_goals omega
         .obtain rfl:n=j:=by omega
          rw[waL (by rw[Zc];exact Qd _),wbl,wbX,wal,zgw];have O0:fnG n (fun _=>(0:Rat))=fnG n (fun v=>(coM (f.1.take 0) v:Rat)):=Yk fun v _=>rfl
          rw[O0];simp only[go_sem];((repeat(refine Q4 0 rfl ?_;simp only[go_sem]));refine Q3 (Oz) rfl ?_;simp only[go_sem];(repeat(refine Q4 0 rfl ?_;simp only[go_sem])));have Xu:=YJ.1;refine QK (fun t:Nat=>stL 139 [(0,.one (.t (eL cL a))),(1,litI .i64 n),(5,.one (.ptr 900000 0)),(58,.one (.t (eL cL a))),(59,litI .i64 a.length),(60,litI .i64 m),(8,litI .i64 m),(9,.one (.ptr 9 0)),(10,.one (.vec 66 3 0 n)),(80,.one (.t (eL cMn f.1))),(81,litI .i64 f.1.length),(82,litI .i64 t)]
           (zae 900100 cR Fa m++(Zb 900001 cI1 (Xr m)++(Zb 900002 cI1 xc++(cvE 900003 m (rowsC 900100 3 n m)++(Zb 900004 cR (Xm m)++[(900000,[QX 900001 1 (Xr m),QX 900002 1 xc,cvC 900003 m,.t (.lit (.int .i64 (n:Int))),QX 900004 3 (Xm m),.vec 900005 3 0 M]),(900005,Q5 cR zs),(9,(cF f).map .t),(66,Q5 cR (fnG n fun v=>(coM (f.1.take t) v:Rat)))])))))) (fun t=>t<=f.1.length) (fun t=>f.1.length-t) 0 ?_ (Qk _) ?_
          ·(refine Q7 rfl ?_ ?_ ?_ ?_<;>(try simp only[go_sem,QH,zbG])<;>(try simp))
           all_goals omega
          .intro t ht
           simp only[go_sem];refine QI (fun Yw=>?_) (fun YG=>?_)
           .have Yv:t<f.1.length:=by omega
            have FA:QM cMn f.1 t=cMn f.1[t]:=Q8 Yv;have S4:=YJ.2.1 _ (Qh Yv);have Kz:=zoH Es Yv;generalize f.1[t]=mm at *
            simp only[go_sem,FA,Yw]
            (repeat(refine Qg (by omega) ?_))
            by_cases c1:mm.1<n
            .have c1':((mm.1:Int)<(n:Int))=True:=Qf (by omega)
             have c2':((0:Int)<=(mm.1:Int))=True:=Qf (by omega);have o1:=zgh mm.2 (by omega);have sd:=zdg (n:=n) (g:=fun v=>(coM (f.1.take t) v:Rat)) c1 (q:=(mm.2:Rat));have J9:fnG n (fun v=>if v=mm.1 then(mm.2:Rat)else(coM (f.1.take t) v:Rat))=fnG n (fun v=>(coM (f.1.take (t+1)) v:Rat)):=Yk fun v _=>by
              rw[Kz v];split<;>rfl
             rw[J9]at sd;have ln3:∀ {g:Nat->Rat},(Q5 cR (fnG n g)).length=n*3:=zf5;simp only[go_sem,c1'];refine Q4 0 rfl ?_;simp only[go_sem];((repeat(refine Q4 0 rfl ?_;simp only[go_sem,c1',c2']));refine Q3 (o1) rfl ?_;simp only[go_sem,c1',c2'];(repeat(refine Q4 0 rfl ?_;simp only[go_sem,c1',c2'])));simp only[go_sem,ln3]
             (repeat(refine Qg (by omega) ?_))
             refine⟨t+1,Yv,(by show f.1.length-(t+1)<f.1.length-t;omega),?_⟩
             (refine Q7 rfl ?_ ?_ ?_ ?_<;>(try simp only[go_sem,QH,zbG,sd,Q6 (n:=(t:Int)+1) (by omega) (by omega)])<;>(try simp))
             all_goals omega
            .have c1':((mm.1:Int)<(n:Int))=False:=Ql (by omega)
             have J9:fnG n (fun v=>(coM (f.1.take (t+1)) v:Rat))=fnG n (fun v=>(coM (f.1.take t) v:Rat)):=Yk fun v hv=>by
              rw[Kz v,Qb (by omega)]
             simp only[go_sem,c1'];refine⟨t+1,Yv,(by show f.1.length-(t+1)<f.1.length-t;omega),?_⟩
             (refine Q7 rfl ?_ ?_ ?_ ?_<;>(try simp only[go_sem,QH,zbG,J9,Q6 (n:=(t:Int)+1) (by omega) (by omega)])<;>(try simp))
             all_goals omega
           .obtain rfl:t=f.1.length:=by omega
            rw[Q1,<-Fz];have GC:(rowsC 900100 3 n m).map (jC 900003)=rowsC 900100 3 n m:=zuw fun i hi=>by omega
            have JE:=zbO f.2 (by have:=YJ.2.2;omega);have Xy:=zgh (-f.2) (by have:=YJ.2.2;rw[Zs];omega);rw[<-WZ]at Xy;have O1:=Fx m;have O2:=Fy m;simp only[go_sem];refine zkx 105 1 [.t (.seq (some true) [])] (cs:=[.vec 66 3 0 n]) rfl (Qd _) (by simp only[go_sem]<;>decide) (by simp only[go_sem]<;>rfl) (by simp only[go_sem]) (by decide) ?_;simp only[go_sem];refine zsQ (b:=900003) (n:=m) (dy:=105) (cs:=rowsC 900100 3 n m) (c:=.vec 66 3 0 n) (bytes:=24) (by simp only[go_sem,QV]<;>decide) (by simp only[go_sem]<;>rfl) (by simp only[go_sem]<;>(by_cases h:m=0<;>simp[h])) zbj GC (by simp only[go_sem]) (by simp only[go_sem]<;>rfl) (by simp only[go_sem]<;>rfl) (by omega) (by decide) (by decide) ?_;simp only[go_sem];refine ZC (sz:=1) (bytes:=8) (by simp only[go_sem,QV]<;>decide) ZW (Xr m) [n+m] (b:=900001) (by simp only[go_sem]<;>rfl) (by simp only[go_sem]<;>rfl) (by simp only[go_sem,Rn]<;>rfl) rfl (by simp) (by simp only[Qe,Qi]at *;omega) (by decide) ?_;simp only[go_sem];refine zdG 14 rfl ?_;refine QN.take' 0 rfl (by decide +kernel) (by decide +kernel) (by decide +kernel) (by simp only[go_sem]) (zdx rfl) ?_;refine QN.ord [0] 0 [1,2,3,4,5,6,7,8,9,10,11,12,13] (by decide +kernel) (by decide +kernel) (by decide +kernel) (by decide +kernel) (by decide +kernel) (by decide) ?_;simp only[Zn,wbj,wbk,wa2,wa7,wa3];simp only[go_sem];((repeat(refine Q4 0 rfl ?_;simp only[go_sem]));refine Q3 (JE) rfl ?_;simp only[go_sem];(repeat(refine Q4 0 rfl ?_;simp only[go_sem]));refine Q3 (Xy) rfl ?_;simp only[go_sem];(repeat(refine Q4 0 rfl ?_;simp only[go_sem])));refine ZC (sz:=3) (bytes:=56) (by simp only[go_sem,QV]<;>decide) zat (Xm m) [moF ls m] (b:=900004) (by simp only[go_sem]<;>rfl) (by simp only[go_sem]<;>rfl) (by simp only[go_sem]<;>rfl) rfl (by simp) (by simp only[Qe,Qi]at *;omega) (by decide) ?_;simp only[go_sem];have FB:(rowsC 900100 3 n m++[C.vec 66 3 0 n]).map (rnC (mvN 66 (900100+m)))=rowsC 900100 3 n (m+1):=by
             rw[waG,zg8 (fun i hi=>by show(if 900100+i=66 then _ else _)=_;rw[Qb (by omega)]),<-zkf];show _++[C.vec (if 66=66 then 900100+m else 66) 3 0 n]=_;rw[Qc rfl]
            refine⟨m+1,Xo,(by show a.length-(m+1)<a.length-m;omega),?_⟩;refine GStep.trans (zc6 (b:=66) (b':=900100+m) (by simp only[go_sem,zbG]<;>simp) (by show _<1000000;omega) (by omega)) ?_
            (refine Q7 rfl ?_ ?_ ?_ ?_<;>(try simp only[go_sem,QH,zbG,zy1,O1,O2,zha,Q6 (n:=(m:Int)+1) (by omega) (by omega)])<;>(try simp))
            refine⟨fun i hi=>?_,by rw[ztg fun i hi=>by rw[Function.comp_apply,Function.comp_apply,zqq (by decide),zqq (by decide),zxS],zkf]⟩;by_cases GD:i=m
            .subst GD;rw[Qc rfl]
            .rw[Qb GD,Qc (by omega)];rw[<-wac,<-wac,<-wac,zha,zha,zha,zgY]
       .obtain rfl:m=a.length:=by omega
        simp only[go_sem];have GE:zae 900100 cR Fa a.length++(Zb 900001 cI1 (Xr a.length)++(Zb 900002 cI1 xc++(cvE 900003 a.length (rowsC 900100 3 n a.length)++(Zb 900004 cR (Xm a.length)++[(900000,[QX 900001 1 (Xr a.length),QX 900002 1 xc,cvC 900003 a.length,.t (.lit (.int .i64 (n:Int))),QX 900004 3 (Xm a.length),.vec 900005 3 0 M]),(900005,Q5 cR zs)]))))=Zp 900000 (zcR (a.map lv) n):=by
         have Et:ls.length=a.length:=by rw[YU,Qm]
         subst NV;rw[VG,hM,L3,Ep,Er,<-YU];unfold Zp zb3 zcR zlX;simp only[Et]
        refine⟨.inr rfl,fun x hx=>?_,rfl,fun b cs h=>?_⟩
        .simp only[Qr]at hx
         subst hx;exact trivial
        .rw[<-GE]at h
         exact h
def zmr(S:SX):TV:=match S.broken with
 |none=>.tup [tLR (fnG S.n S.va),.one (.seq (some true) []),tB true]
 |some r=>.tup [.one (.seq (some true) []),tLR (fnG S.R (Z3 S r S.n)),tB false]
theorem znS(c:C):rnC id c=c:=by cases c<;>simp[rnC]
theorem znh(ls:List Fm)(n:Nat):InvX (aOf ls) n ls.length (zcR ls n):=zsW _ _ _ _
theorem znO{α:Type}{g:Nat->α}{n m:Nat}(h:n<=m):(fnG m g).take n=fnG n g:=by
 unfold fnG;rw[<-wdc,List.take_range,wbs h]
theorem zv7(a:List LL)(n:Nat){N L:Nat}(hn:n<=40)(hd:a.length<=8000)(hN:N<=1000000)(hL:L<=1000000000)(ha:∀ l∈a,BL N L l)(T:Nat)(hr:zh3 (zcR (a.map lv) n) T)(hs:(itX (zcR (a.map lv) n) T).step=none)
  {K:Nat} (hK:K<=400000000) (hB:∀ t,t<=T->BdX K (itX (zcR (a.map lv) n) t)) :
  Q9 prog 34 [.one (eL cL a),tI .i64 n] (zmr (itX (zcR (a.map lv) n) T)):=by
 refine QJ QC call34 func34 rfl ntmps34 results34 (by simp) (by decide) ?_;have Oo:=zxT a n (by omega) hN hL ha;have UY:=znh (a.map lv) n;have Fg:=fun t=>(zdN UY t).1
 rw[Qm]at UY Fg;generalize Gr:zcR (a.map lv) n=S0 at *
 obtain⟨R,hR⟩:∃ R,R=a.length:=⟨_,rfl⟩
 rw[<-hR]at UY Fg;have m1:(if(0:Int)>(n:Int)then(0:Int)else(n:Int))=(n:Int):=Qb (by omega);have m2:(if(40:Int)<(n:Int)then(40:Int)else(n:Int))=(n:Int):=by(split<;>omega)
 simp only[go_sem];refine zdK rfl (by simp only[go_sem]<;>rfl) (by simp only[go_sem]<;>rfl) (Qd _) ?_;simp only[go_sem,m1];skip;try simp only[go_sem,m2]
 refine zfb (H':=QB (Z5 900000 S0 [])) id (.inr rfl) Oo rfl (fun b hb=>?_) (fun _ _ _ _ h=>h) (fun b cs hb=>?_) (fun x hx=>?_) ?_
 .have hk:=zes (k:=b) (S:=S0) (b:=900000) (waD fun h=>hb (zbi.2 h))
  have:S0.R=R:=UY.eR;exact⟨rfl,by show b<1000000;omega⟩
 .rw[zkO]
  show QB (Zp 900000 S0) b=_;rw[hb];rw[wau (g:=id) fun c _=>znS c,wb0]
 .rw[zkO]
  show QB (Zp 900000 S0) x=none;exact waD fun h=>hx x h rfl
 have YN:zh3 S0 T->∀ t,t<T->(itX S0 t).step≠none:=fun h=>h
 simp only[go_sem];refine QK (fun t:Nat=>stL 43 [(0,.one (.t (eL cL a))),(1,litI .i64 n),(7,.one (.ptr 900000 0))] (Z5 900000 (itX S0 t) [])) (fun t=>t<=T) (fun t=>T-t) 0 ?_ (Qk _) ?_
 ·(refine Q7 rfl ?_ ?_ ?_ ?_<;>(try simp only[go_sem])<;>(try simp only[Qy,Qv,Qs]))
  .rfl
  .exact of_eq_true ziO
 .intro t ht
  have hI:=Fg t;have RP:=hB t ht;have Yx:=@zoE S0 t;have YN:=hr t;obtain⟨S,hS⟩:∃ S,S=itX S0 t:=⟨_,rfl⟩
  rw[<-hS]at hI RP Yx YN;have rb:∀ {H},AtS H 900000 S->RdC prog 57 [.one (.ptr 900000 0)] H (litI .i64 (zd8 S.broken)):=fun hH=>zhs 900000 (zuY S (K:=K) (by omega) RP) rfl (Q2.2 ⟨zfy,fun x hx=>by cases hx⟩) hH
  simp only[go_sem];rw[<-hS];refine zbL (.inr rfl) (rb (by simp only[go_sem])) ?_;by_cases Yw:t<T
  .obtain⟨r,c,hb,hc,he,J8,XC,_,Kx,_⟩:=hI.stepd (Yx (YN Yw))
   have Gp:=hI.en;have Oq:=hI.eR;have c1:((r:Int)<0)=False:=Ql (by omega);have c2:((c:Int)<0)=False:=Ql (by omega);have rc:∀ {H},AtS H 900000 S->RdC prog 59 [.one (.ptr 900000 0),litI .i64 r] H (litI .i64 (zd8 (S.column r))):=fun hH=>zhs 900000 (zoL S r (K:=K) (by omega) RP (by omega)) rfl (Q2.2 ⟨zfy,Q2.2 ⟨trivial,fun x hx=>by cases hx⟩⟩) hH
   rw[hb];rw[hc]at rc;simp only[go_sem,c1];refine zbL (.inr rfl) (rc (by simp only[go_sem])) ?_;simp only[go_sem,c2];refine zof (S:=S) (S':=S.piv r c) 900000 (.inr rfl) (zuL S hI r c (K:=K) (by omega) RP (by omega) (by omega) (by omega)) rfl rfl rfl (Q2.2 ⟨zfy,Q2.2 ⟨trivial,Q2.2 ⟨trivial,fun x hx=>by cases hx⟩⟩⟩) (by simp only[go_sem]) ?_;simp only[go_sem];refine⟨t+1,Yw,(by show T-(t+1)<T-t;omega),?_⟩
   (refine Q7 rfl ?_ ?_ ?_ ?_<;>(try simp only[go_sem])<;>(try simp only[Qy,Qv,Qu]))
   rw[he];exact fun k _ cs h=>by show(QB _ _).or _=_;rw[h];rfl
  .obtain rfl:t=T:=by omega
   rw[<-hS];unfold zmr;cases hb:S.broken with
   |none =>
    have Sy:900005=900000+5:=rfl;have VQ:=Yl (f:=cR) (xs:=fnG (S.n+S.R) S.va) zat;rw[Zc]at VQ;have WV:=zqr (fnG S.n S.va) (by rw[Zc];have:=RP.dim;omega);simp only[go_sem];refine zqy (zbu (b:=900005) (sz:=3) (len:=S.n+S.R) (by simp only[go_sem]<;>rfl) VQ) ?_;refine Q4 0 rfl ?_;have h0:((0:Int)<=(S.n:Int))=True:=Qf (by omega);have Wk:(fnG (S.n+S.R) S.va).take S.n=fnG S.n S.va:=znO (by omega);simp only[go_sem,h0,Wk];refine⟨⟨Qk _,by omega⟩,?_⟩;((repeat(refine Q4 0 rfl ?_;simp only[go_sem]));refine Q3 (WV) rfl ?_;simp only[go_sem];(repeat(refine Q4 0 rfl ?_;simp only[go_sem])));exact zri rfl
   |some r =>
    have c1:((r:Int)<0)=False:=Ql (by omega);have YW:S.column r=none:=by
     rw[<-hS]at hs;cases hc:S.column r with
     |none=>rfl
     |some c=>exfalso;simp[SX.step,hb,hc]at hs
    have J8:=(hI.broken hb).1;have Kx:=(hI.broken hb).2.1;have Gp:=hI.en;have Oq:=hI.eR;have c2:((-1:Int)<0)=True:=Qf (by omega);have rc:∀ {H},AtS H 900000 S->RdC prog 59 [.one (.ptr 900000 0),litI .i64 r] H (litI .i64 (zd8 (S.column r))):=fun hH=>zhs 900000 (zoL S r (K:=K) (by omega) RP (by omega)) rfl (Q2.2 ⟨zfy,Q2.2 ⟨trivial,fun x hx=>by cases hx⟩⟩) hH
    have rr:∀ {H},AtS H 900000 S->RdC prog 60 [.one (.ptr 900000 0),litI .i64 r,litI .i64 S.R] H (.one (.t (eL cR (fnG S.R (Z3 S r S.n))))):=fun hH=>zhs 900000 (zup S r (K:=K) (by omega) RP (by omega) (by omega)) rfl (Q2.2 ⟨zfy,Q2.2 ⟨trivial,Q2.2 ⟨trivial,fun x hx=>by cases hx⟩⟩⟩) hH
    rw[YW]at rc;simp only[go_sem,c1];refine zbL (.inr rfl) (rc (by simp only[go_sem])) ?_;simp only[go_sem,c2];have Ot:(a.length:Int)=(S.R:Int):=by omega
    simp only[go_sem,Ot];refine zbL (.inr rfl) (rr (by simp only[go_sem])) ?_;simp only[go_sem];exact zri rfl
theorem zsi{A:Nat->Nat->Rat}{n R:Nat}{S:SX}(h:InvX A n R S):∃ T,zh3 S T/\(itX S T).step=none:=by
 refine waD fun X9=>?_
 have key:∀ T,zh3 S T:=fun T=>by
  induction T with
  |zero=>intro s hs;omega
  |succ T ih =>
   intro s hs;rcases was s T with h1|h1
   .exact ih s h1
   .obtain rfl:s=T:=by omega
    exact fun he=>X9 ⟨s,ih,he⟩
 exact zxa h (key _)
theorem zol{n:Nat}{p:Nat->Rat}(hp:∀ v,n<=v->p v=0):∀ (l:List Mn) (k:Nat),WM k l->zdq l p=smQ (fun j=>(coM l j:Rat)*p j) n
 |[],_,_=>(zen fun j _=>by show((0:Int):Rat)*p j=0;exact wbC _).symm
 |m::l,k,w=>by
  have ih:=zol hp l _ w.2.2;have h0:coM l m.1=0:=zf6 w.2.2 (waN _);have e:smQ (fun j=>(coM (m::l) j:Rat)*p j) n=smQ (fun j=>(coM l j:Rat)*p j) n+(m.2:Rat)*p m.1:=by
   rcases was m.1 n with h|h
   .rw[zdE h (f:=fun j=>(coM (m::l) j:Rat)*p j),zdE h (f:=fun j=>(coM l j:Rat)*p j),h0]
    have e1:(coM (m::l) m.1:Rat)=(m.2:Rat):=by rw[coM,Qc rfl]
    have e2:smQ (fun j=>if j=m.1 then 0 else(coM (m::l) j:Rat)*p j) n=smQ (fun j=>if j=m.1 then 0 else(coM l j:Rat)*p j) n:=Yd fun j _=>by
     by_cases e:j=m.1
     .rw[Qc e,Qc e]
     .rw[Qb e,Qb e,coM,Qb (fun h=>e h.symm)]
    rw[e1,e2];show _+_=_+((0:Int):Rat)*_+_;have e3:((0:Int):Rat)*p m.1=0:=wbC _;rw[e3,wcZ]
   .rw[hp _ h,wcp,wcZ]
    exact Yd fun j hj=>by rw[coM,Qb (by omega)]
  rw[e,<-ih];show(m.2:Rat)*p m.1+zdq l p=_;exact Rat.add_comm _ _
theorem zom{n i:Nat}{g:Nat->Rat}(h:i<n):(fnG n g).getD i 0=g i:=by
 rw[waC,waa (by rw[Zc];exact h),za2];rfl
def ptR(x:List Rat)(v:Nat):Rat:=x.getD v 0
theorem zyi{x:List Rat}{n v:Nat}(hx:x.length=n)(h:n<=v):ptR x v=0:=by
 unfold ptR;rw[waC,wcy (by omega)];rfl
theorem zpA{f:Fm}{n:Nat}{p:Nat->Rat}(hp:∀ v,n<=v->p v=0)(hw:WF f):atQ f p=(f.2:Rat)+smQ (fun j=>(coM f.1 j:Rat)*p j) n:=by
 unfold atQ;rw[zol hp f.1 0 hw]
theorem zwQ{S:SX}{r K:Nat}(hK:1<=K)(ha:∀ c,c<S.n->lQ (S.a r c)<=K):∀ c,c<=S.n->∀ v,lQ (Z3 S r c v)<=K:=by
 intro c
 induction c with
 |zero =>
  intro _ v;show lQ (if v=S.rw r-S.n then 1 else 0)<=K;have:=zi1;have:=zqg;split<;>omega
 |succ c ih =>
  intro hc v;have h1:=ih (by omega) v;show lQ ((if S.n<=S.cl c then fun v=>if v=S.cl c-S.n then -(S.a r c)else Z3 S r c v else Z3 S r c) v)<=K;by_cases h:S.n<=S.cl c
  .rw[Qc h]
   show lQ (if v=S.cl c-S.n then -(S.a r c)else Z3 S r c v)<=K;split
   .rw[zff];exact ha c (by omega)
   .exact h1
  .rw[Qb h];exact h1
def zdh(ls:List Fm)(n:Nat)(g:List Rat):Prop:=(∀ q∈g,0<=q)/\(∀ v,v<n->smQ (fun i=>g.getD i 0*(coM (ls.getD i ([],0)).1 v:Rat)) ls.length=0)/\0<smQ (fun i=>g.getD i 0*((ls.getD i ([],0)).2:Rat)) ls.length
theorem zdh.none{ls:List Fm}{n:Nat}{g:List Rat}(h:zdh ls n g)(hw:∀ f∈ls,WF f){p:Nat->Rat}(hp:∀ v,n<=v->p v=0)(hx:∀ f∈ls,atQ f p<=0):False:=by
 obtain⟨h1,h2,h3⟩:=h;have hg:∀ i,0<=g.getD i 0:=fun i=>by
  rw[waC];cases e:g[i]? with
  |none=>exact wdl
  |some q=>exact h1 q (wdm e)
 have YZ:0<=smQ (fun i=>g.getD i 0 * -(atQ (ls.getD i ([],0)) p)) ls.length:=zki fun i hi=>by
  refine Rat.mul_nonneg (hg i) ?_;rw[waC,waa hi];have:=hx _ (Qh hi);show 0<=-(atQ ls[i] p)
  grind
 have e:smQ (fun i=>g.getD i 0 * -(atQ (ls.getD i ([],0)) p)) ls.length = -smQ (fun i=>g.getD i 0*((ls.getD i ([],0)).2:Rat)) ls.length:=by
  have e1:smQ (fun i=>g.getD i 0 * -(atQ (ls.getD i ([],0)) p)) ls.length=smQ (fun i=>(-1)*(g.getD i 0*((ls.getD i ([],0)).2:Rat))+smQ (fun j=>(-(p j))*(g.getD i 0*(coM (ls.getD i ([],0)).1 j:Rat))) n) ls.length:=Yd fun i hi=>by
   have UJ:WF (ls.getD i ([],0)):=by
    rw[waC,waa hi];exact hw _ (Qh hi)
   rw[zpA hp UJ];have e2:smQ (fun j=>(-(p j))*(g.getD i 0*(coM (ls.getD i ([],0)).1 j:Rat))) n=(-(g.getD i 0))*smQ (fun j=>(coM (ls.getD i ([],0)).1 j:Rat)*p j) n:=by
    rw[<-zcK];exact Yd fun j _=>by grind
   rw[e2];grind
  rw[e1,zho,zk3,zcK,zen (f:=fun j=>smQ (fun i=>-(p j)*(g.getD i 0*(coM (ls.getD i ([],0)).1 j:Rat))) ls.length) fun j hj=>by rw[zcK,h2 j hj];exact wcp _]
  grind
 rw[e]at YZ
 grind
abbrev zmt:TV:=.one (.seq (some true) [])
theorem zeq{α:Type}{n:Nat}{g:Nat->α}{q:α}(h:q∈fnG n g):∃ i,i<n/\q=g i:=by
 unfold fnG at h;obtain⟨i,hi,rfl⟩:=Qp.1 h;exact⟨i,waJ.1 hi,rfl⟩
end Go.Proofs.YtlgjjcmljmjenaaGreat
