/- At every input the call answers true and leaves its arguments as they were; no conditions. -/
import Derived.Test.YtlgjjcmljmjenaaGreatDa
import Derived.Test.YtlgjjcmljmjenaaGreatAh
set_option linter.unusedSimpArgs false
set_option linter.unusedVariables false
set_option maxRecDepth 100000
set_option maxHeartbeats 32000000
namespace Go.Proofs.YtlgjjcmljmjenaaGreat
open Go Go.Abs Go.Proofs.Tryz
def aOf(ls:List Fm)(i j:Nat):Rat:=(coM (ls.getD i ([],0)).1 j:Rat)
def moF(ls:List Fm)(i:Nat):Rat:=((-(ls.getD i ([],0)).2:Int):Rat)
def zcW(ls:List Fm)(n:Nat):SX:=zl6 (aOf ls) n ls.length (moF ls)
theorem zup{b sz len n c:Nat}(h:∀ i,i<n->b+i≠c):(rowsC b sz len n).map (jC c)=rowsC b sz len n:=by
 unfold rowsC;rw[wah];exact way fun i hi=>by show(if b+i=c then C.t .junk else C.vec (b+i) sz 0 len)=_;rw[Qb (h i (wav.1 hi))]
theorem ztb{b sz len n:Nat}{g:C->C}(h:∀ i,i<n->g (.vec (b+i) sz 0 len) = .vec (b+i) sz 0 len):(rowsC b sz len n).map g=rowsC b sz len n:=by
 unfold rowsC;rw[wah];exact way fun i hi=>h i (wav.1 hi)
theorem zql{b i len:Nat}(h:b<900100):jC b (C.vec (900100+i) 3 0 len)=C.vec (900100+i) 3 0 len:=by show(if 900100+i=b then _ else _)=_;rw[Qb (by omega)]
theorem zxI{m i len:Nat}:rnC (mvN 66 (900100+m)) (C.vec (900100+i) 3 0 len)=C.vec (900100+i) 3 0 len:=by show C.vec (if 900100+i=66 then _ else _) _ _ _=_;rw[Qb (by omega)]
theorem zyR{i t:Nat}(h:t<900100):(t=900100+i)=False:=Ql (by omega)
theorem zbH{i t:Nat}(h:t<900100):(900100+i=t)=False:=Ql (by omega)
theorem zxJ(a:List LL)(n:Nat){N L:Nat}(hd:n+a.length<90000)(hN:N<=1000000)(hL:L<=1000000000)(ha:∀ l∈a,BL N L l) :
  zbW prog 56 [.one (eL cL a),tI .i64 n] (Q9 (Zs 900000 (zcW (a.map lv) n))) (.one (.ptr 900000 0)):=by
 refine zcq QB call56 func56 rfl ntmps56 results56 (by simp) (by decide) ?_ ?_ ?_
 .exact zb8 (zk0 900000 _)
 .show Q9 (Zs 900000 _) 900000≠none
  rw[Ne,zbi,zgc];intro h;exact h (by simp)
 .have z:=zmc
  simp only[go_sem];refine QJ (fun i:Nat=>stL 139 [(0,.one (.t (eL cL a))),(1,litI .i64 n),(5,.one (.ptr 900000 0)),(17,litI .i64 n),(18,litI .i64 i)]
   (Zb 900002 cI1 (fnG i fun j=>j)++[(900000,[(.t (.seq (some true) [])),QX 900002 1 (fnG i fun j=>j),(.t (.seq (some true) [])),.t (.lit (.int .i64 (n:Int))),(.t (.seq (some true) [])),(.t (.seq (some true) []))])])) (fun i=>i<=n) (fun i=>n-i) 0 ?_ (Qk _) ?_
  .rw[zud]
   refine GStep.trans (zdd (b:=16) (b':=900000) (by simp only[go_sem]) (by decide) (by decide)) ?_
   (refine Q6 rfl ?_ ?_ ?_ ?_<;>(try simp only[go_sem])<;>(try simp only[Qz,Qw,Qx,Qv]))
  .intro i hi
   simp only[go_sem];refine QI (fun Y1=>?_) (fun YI=>?_)
   .have Yz:i<n:=by omega
    have Y0:=zkP (n:=i) (g:=fun j:Nat=>j);have Xb:(fnG i fun j:Nat=>j).length=i:=Zj;generalize hl:(fnG i fun j:Nat=>j)=xs at *
    simp only[go_sem,Y1];refine ZF (sz:=1) (bytes:=8) (by simp only[go_sem,QW]<;>decide) Ya xs [i] (b:=900002) (by simp only[go_sem]<;>rfl) (by simp only[go_sem]<;>rfl) (by simp only[go_sem]<;>rfl) rfl (by simp) (by simp only[Qe,Qi]at *;omega) (by decide) ?_;simp only[go_sem];refine⟨i+1,Yz,(by show n-(i+1)<n-i;omega),?_⟩
    (refine Q6 rfl ?_ ?_ ?_ ?_<;>(try simp only[go_sem,Y0,Q4 (n:=(i:Int)+1) (by omega) (by omega)])<;>(try simp))
   .obtain rfl:n=i:=by omega
    have XM:IntKind.i64.wrap ((n:Int)+(a.length:Int))=((n+a.length:Nat):Int):=by rw[Q4 (by omega) (by omega)];omega
    obtain⟨M,hM⟩:∃ M,M=n+a.length:=⟨_,rfl⟩
    rw[<-hM]at XM;simp only[go_sem,XM]
    (repeat(refine Qg (by omega) ?_))
    refine QJ (fun k:Nat=>stL 139 [(0,.one (.t (eL cL a))),(1,litI .i64 n),(5,.one (.ptr 900000 0)),(45,.one (.vec 900005 3 0 M)),(46,litI .i64 M),(47,litI .i64 k)]
     (Zb 900002 cI1 (fnG n fun j=>j)++[(900000,[.t (.seq (some true) []),QX 900002 1 (fnG n fun j=>j),.t (.seq (some true) []),.t (.lit (.int .i64 (n:Int))),.t (.seq (some true) []),.vec 900005 3 0 M]),(900005,Q5 cZ (((fnG M fun _=>(0:Rat)).take k).map some++List.replicate (M-k) none))])) (fun k=>k<=M) (fun k=>M-k) 0 ?_ (Qk _) ?_
    .rw[was,wbP,waL,wbw]
     refine GStep.trans (zaA 39 (cs:=Zh M z3) (by simp only[go_sem]<;>rfl) (ze6 _)) ?_;refine GStep.trans (zdd (b:=39) (b':=900005) (by simp only[go_sem]) (by decide) (by decide)) ?_
     (refine Q6 rfl ?_ ?_ ?_ ?_<;>(try simp only[go_sem,QF])<;>(try simp))
    .intro k hk
     simp only[go_sem];refine QI (fun XT=>?_) (fun GP=>?_)
     .have YZ:k<M:=by omega
      have Y4:(fnG M fun _=>(0:Rat)).length=M:=Zj;have Kc:(((fnG M fun _=>(0:Rat)).take k).map some++List.replicate (M-k) none).length=M:=by simp[Zj];omega
      have Y0:=zf4 (l:=fnG M fun _=>(0:Rat)) (n:=M) (i:=k) (by rw[Y4];exact YZ) (by omega);rw[za4]at Y0;generalize ((fnG M fun _=>(0:Rat)).take k).map some++List.replicate (M-k) none=ys at *
      have Ua:=zgJ (ys:=ys) (i:=k) (by omega) (q:=0);rw[Y0]at Ua;simp only[go_sem,XT];refine Q3 0 rfl ?_;simp only[go_sem];((repeat(refine Q3 0 rfl ?_;simp only[go_sem,XT]));refine Q2 (z) rfl ?_;simp only[go_sem,XT];(repeat(refine Q3 0 rfl ?_;simp only[go_sem,XT])));simp only[go_sem,zgq]
      (repeat(refine Qg (by omega) ?_))
      refine⟨k+1,YZ,(by show M-(k+1)<M-k;omega),?_⟩
      (refine Q6 rfl ?_ ?_ ?_ ?_<;>(try simp only[go_sem,QF,Ua,Q4 (n:=(k:Int)+1) (by omega) (by omega)])<;>(try simp))
     .obtain rfl:M=k:=by omega
      rw[waM (by rw[Zj];exact Qd _),wbu,wbS,wak,zgD];obtain⟨ls,YY⟩:∃ ls,ls=a.map lv:=⟨_,rfl⟩
      obtain⟨Xr,Ez⟩:∃ Xr:Nat->List Nat,Xr=fun i=>fnG i (fun j=>n+j):=⟨_,rfl⟩
      obtain⟨Xm,E3⟩:∃ Xm:Nat->List Rat,Xm=fun i=>fnG i (moF ls):=⟨_,rfl⟩
      obtain⟨Fa,LC⟩:∃ Fa:Nat->List Rat,Fa=fun m=>fnG n (aOf ls m):=⟨_,rfl⟩
      have FC:Xr 0=[]:=by rw[Ez];rfl
      have FD:Xm 0=[]:=by rw[E3];rfl
      have FE:∀ i,(Xr i).length=i:=fun i=>by rw[Ez];exact Zj
      have FF:∀ i,(Xm i).length=i:=fun i=>by rw[E3];exact Zj
      have FG:∀ i,Xr (i+1)=Xr i++[n+i]:=fun i=>by rw[Ez];exact zkP
      have FH:∀ i,Xm (i+1)=Xm i++[moF ls i]:=fun i=>by rw[E3];exact zkP
      generalize Gi:(fnG n fun j:Nat=>j)=xc at *
      have S5:∃ xz,xz=Q5 cR (fnG M fun _=>(0:Rat)):=⟨_,rfl⟩
      obtain⟨zs,VJ⟩:∃ zs,zs=fnG M fun _=>(0:Rat):=⟨_,rfl⟩
      rw[<-VJ];simp only[go_sem];refine QJ (fun i:Nat=>stL 139 [(0,.one (.t (eL cL a))),(1,litI .i64 n),(5,.one (.ptr 900000 0)),(58,.one (.t (eL cL a))),(59,litI .i64 a.length),(60,litI .i64 i)]
       (zad 900100 cR Fa i++(Zb 900001 cI1 (Xr i)++(Zb 900002 cI1 xc++(cvE 900003 i (rowsC 900100 3 n i)++(Zb 900004 cR (Xm i)++[(900000,[QX 900001 1 (Xr i),QX 900002 1 xc,cvC 900003 i,.t (.lit (.int .i64 (n:Int))),QX 900004 3 (Xm i),.vec 900005 3 0 M]),(900005,Q5 cR zs)])))))) (fun i=>i<=a.length) (fun i=>a.length-i) 0 ?_ (Qk _) ?_
      .rw[FC,FD]
       (refine Q6 rfl ?_ ?_ ?_ ?_<;>(try simp only[go_sem,QF])<;>(try simp))
      .intro m hm
       simp only[go_sem];refine QI (fun KW=>?_) (fun UM=>?_)
       .have Xp:m<a.length:=by omega
        have Y5:QP cL a m=cL a[m]:=Q8 Xp;have hb:=ha _ (Qf Xp);have YK:=zbp hb;have E4:=zmn a[m];have O2:=zys a[m] hN (by omega) hb;have UL:ls.getD m ([],0)=lv a[m]:=by rw[YY,waE,List.getElem?_map,wab Xp];rfl
        have FI:Fa m=fnG n fun v=>(coM (lv a[m]).1 v:Rat):=by
         rw[LC];show fnG n (aOf ls m)=_;exact Yo fun v _=>by unfold aOf;rw[UL]
        have Kg:moF ls m=((-(lv a[m]).2:Int):Rat):=by unfold moF;rw[UL]
        have YX:=FE m;have Jw:=FF m;generalize a[m]=l at *
        generalize lv l=f at *
        simp only[go_sem,Y5,KW];refine⟨by omega,by omega,?_⟩;have Jz:IntKind.i64.wrap ((n:Int)+(m:Int))=((n+m:Nat):Int):=by rw[Q4 (by omega) (by omega)];omega
        refine QJ (fun j:Nat=>stL 139 [(0,.one (.t (eL cL a))),(1,litI .i64 n),(5,.one (.ptr 900000 0)),(58,.one (.t (eL cL a))),(59,litI .i64 a.length),(60,litI .i64 m),(8,litI .i64 m),(9,.one (.ptr 9 0)),(10,.one (.vec 66 3 0 n)),(67,.one (.vec 66 3 0 n)),(68,litI .i64 n),(69,litI .i64 j)]
         (zad 900100 cR Fa m++(Zb 900001 cI1 (Xr m)++(Zb 900002 cI1 xc++(cvE 900003 m (rowsC 900100 3 n m)++(Zb 900004 cR (Xm m)++[(900000,[QX 900001 1 (Xr m),QX 900002 1 xc,cvC 900003 m,.t (.lit (.int .i64 (n:Int))),QX 900004 3 (Xm m),.vec 900005 3 0 M]),(900005,Q5 cR zs),(9,(cL l).map .t),(66,Q5 cZ (((fnG n fun _=>(0:Rat)).take j).map some++List.replicate (n-j) none))])))))) (fun j=>j<=n) (fun j=>n-j) 0 ?_ (Qk _) ?_
        .rw[was,wbP,waL,wbw]
         refine GStep.trans (zaA 66 (cs:=Zh n z3) (by simp only[go_sem]<;>rfl) (ze6 _)) ?_
         (refine Q6 rfl ?_ ?_ ?_ ?_<;>(try simp only[go_sem,QF,zbH])<;>(try simp))
         all_goals omega
        .intro j hj
         simp only[go_sem];refine QI (fun VK=>?_) (fun LD=>?_)
         .have XQ:j<n:=by omega
          have Y4:(fnG n fun _=>(0:Rat)).length=n:=Zj;have Kc:(((fnG n fun _=>(0:Rat)).take j).map some++List.replicate (n-j) none).length=n:=by simp[Zj];omega
          have Y0:=zf4 (l:=fnG n fun _=>(0:Rat)) (n:=n) (i:=j) (by rw[Y4];exact XQ) (by omega);rw[za4]at Y0;generalize ((fnG n fun _=>(0:Rat)).take j).map some++List.replicate (n-j) none=ys at *
          have Ua:=zgJ (ys:=ys) (i:=j) (by omega) (q:=0);rw[Y0]at Ua;simp only[go_sem,VK];((repeat(refine Q3 0 rfl ?_;simp only[go_sem,VK]));refine Q2 (z) rfl ?_;simp only[go_sem,VK];(repeat(refine Q3 0 rfl ?_;simp only[go_sem,VK])));simp only[go_sem,zgq]
          (repeat(refine Qg (by omega) ?_))
          refine⟨j+1,XQ,(by show n-(j+1)<n-j;omega),?_⟩
          (refine Q6 rfl ?_ ?_ ?_ ?_<;>(try simp only[go_sem,QF,Ua,zbH,Q4 (n:=(j:Int)+1) (by omega) (by omega)])<;>(try simp))
          all_goals omega
         .obtain rfl:n=j:=by omega
          rw[waM (by rw[Zj];exact Qd _),wbu,wbS,wak,zgD];have O3:fnG n (fun _=>(0:Rat))=fnG n (fun v=>(coM (f.1.take 0) v:Rat)):=Yo fun v _=>rfl
          rw[O3];simp only[go_sem];((repeat(refine Q3 0 rfl ?_;simp only[go_sem]));refine Q2 (O2) rfl ?_;simp only[go_sem];(repeat(refine Q3 0 rfl ?_;simp only[go_sem])));have Xz:=YK.1;refine QJ (fun t:Nat=>stL 139 [(0,.one (.t (eL cL a))),(1,litI .i64 n),(5,.one (.ptr 900000 0)),(58,.one (.t (eL cL a))),(59,litI .i64 a.length),(60,litI .i64 m),(8,litI .i64 m),(9,.one (.ptr 9 0)),(10,.one (.vec 66 3 0 n)),(80,.one (.t (eL cMn f.1))),(81,litI .i64 f.1.length),(82,litI .i64 t)]
           (zad 900100 cR Fa m++(Zb 900001 cI1 (Xr m)++(Zb 900002 cI1 xc++(cvE 900003 m (rowsC 900100 3 n m)++(Zb 900004 cR (Xm m)++[(900000,[QX 900001 1 (Xr m),QX 900002 1 xc,cvC 900003 m,.t (.lit (.int .i64 (n:Int))),QX 900004 3 (Xm m),.vec 900005 3 0 M]),(900005,Q5 cR zs),(9,(cF f).map .t),(66,Q5 cR (fnG n fun v=>(coM (f.1.take t) v:Rat)))])))))) (fun t=>t<=f.1.length) (fun t=>f.1.length-t) 0 ?_ (Qk _) ?_
          ·(refine Q6 rfl ?_ ?_ ?_ ?_<;>(try simp only[go_sem,QF,zbH])<;>(try simp))
           all_goals omega
          .intro t ht
           simp only[go_sem];refine QI (fun Y1=>?_) (fun YI=>?_)
           .have Yz:t<f.1.length:=by omega
            have FJ:QP cMn f.1 t=cMn f.1[t]:=Q8 Yz;have S6:=YK.2.1 _ (Qf Yz);have KB:=zoU E4 Yz;generalize f.1[t]=mm at *
            simp only[go_sem,FJ,Y1]
            (repeat(refine Qg (by omega) ?_))
            by_cases c1:mm.1<n
            .have c1':((mm.1:Int)<(n:Int))=True:=Qh (by omega)
             have c2':((0:Int)<=(mm.1:Int))=True:=Qh (by omega);have o1:=zgr mm.2 (by omega);have sd:=zdo (n:=n) (g:=fun v=>(coM (f.1.take t) v:Rat)) c1 (q:=(mm.2:Rat));have JK:fnG n (fun v=>if v=mm.1 then(mm.2:Rat)else(coM (f.1.take t) v:Rat))=fnG n (fun v=>(coM (f.1.take (t+1)) v:Rat)):=Yo fun v _=>by
              rw[KB v];split<;>rfl
             rw[JK]at sd;have ln3:∀ {g:Nat->Rat},(Q5 cR (fnG n g)).length=n*3:=zgg;simp only[go_sem,c1'];refine Q3 0 rfl ?_;simp only[go_sem];((repeat(refine Q3 0 rfl ?_;simp only[go_sem,c1',c2']));refine Q2 (o1) rfl ?_;simp only[go_sem,c1',c2'];(repeat(refine Q3 0 rfl ?_;simp only[go_sem,c1',c2'])));simp only[go_sem,ln3]
             (repeat(refine Qg (by omega) ?_))
             refine⟨t+1,Yz,(by show f.1.length-(t+1)<f.1.length-t;omega),?_⟩
             (refine Q6 rfl ?_ ?_ ?_ ?_<;>(try simp only[go_sem,QF,zbH,sd,Q4 (n:=(t:Int)+1) (by omega) (by omega)])<;>(try simp))
             all_goals omega
            .have c1':((mm.1:Int)<(n:Int))=False:=Ql (by omega)
             have JK:fnG n (fun v=>(coM (f.1.take (t+1)) v:Rat))=fnG n (fun v=>(coM (f.1.take t) v:Rat)):=Yo fun v hv=>by
              rw[KB v,Qb (by omega)]
             simp only[go_sem,c1'];refine⟨t+1,Yz,(by show f.1.length-(t+1)<f.1.length-t;omega),?_⟩
             (refine Q6 rfl ?_ ?_ ?_ ?_<;>(try simp only[go_sem,QF,zbH,JK,Q4 (n:=(t:Int)+1) (by omega) (by omega)])<;>(try simp))
             all_goals omega
           .obtain rfl:t=f.1.length:=by omega
            rw[waa,<-FI];have GQ:(rowsC 900100 3 n m).map (jC 900003)=rowsC 900100 3 n m:=zup fun i hi=>by omega
            have JP:=zbN f.2 (by have:=YK.2.2;omega);have XG:=zgr (-f.2) (by have:=YK.2.2;rw[Zw];omega);rw[<-Kg]at XG;have O4:=FG m;have O5:=FH m;simp only[go_sem];refine ziM 105 1 [.t (.seq (some true) [])] (cs:=[.vec 66 3 0 n]) rfl (Qd _) (by simp only[go_sem]<;>decide) (by simp only[go_sem]<;>rfl) (by simp only[go_sem]) (by decide) ?_;simp only[go_sem];refine zsP (b:=900003) (n:=m) (dy:=105) (cs:=rowsC 900100 3 n m) (c:=.vec 66 3 0 n) (bytes:=24) (by simp only[go_sem,QW]<;>decide) (by simp only[go_sem]<;>rfl) (by simp only[go_sem]<;>(by_cases h:m=0<;>simp[h])) zbk GQ (by simp only[go_sem]) (by simp only[go_sem]<;>rfl) (by simp only[go_sem]<;>rfl) (by omega) (by decide) (by decide) ?_;simp only[go_sem];refine ZF (sz:=1) (bytes:=8) (by simp only[go_sem,QW]<;>decide) Ya (Xr m) [n+m] (b:=900001) (by simp only[go_sem]<;>rfl) (by simp only[go_sem]<;>rfl) (by simp only[go_sem,Jz]<;>rfl) rfl (by simp) (by simp only[Qe,Qi]at *;omega) (by decide) ?_;simp only[go_sem];refine zde 14 rfl ?_;refine QK.take' 0 rfl (by decide +kernel) (by decide +kernel) (by decide +kernel) (by simp only[go_sem]) (zdD rfl) ?_;refine QK.ord [0] 0 [1,2,3,4,5,6,7,8,9,10,11,12,13] (by decide +kernel) (by decide +kernel) (by decide +kernel) (by decide +kernel) (by decide +kernel) (by decide) ?_;simp only[Zq,wbh,wbi,waZ,wa6,wa0];simp only[go_sem];((repeat(refine Q3 0 rfl ?_;simp only[go_sem]));refine Q2 (JP) rfl ?_;simp only[go_sem];(repeat(refine Q3 0 rfl ?_;simp only[go_sem]));refine Q2 (XG) rfl ?_;simp only[go_sem];(repeat(refine Q3 0 rfl ?_;simp only[go_sem])));refine ZF (sz:=3) (bytes:=56) (by simp only[go_sem,QW]<;>decide) zat (Xm m) [moF ls m] (b:=900004) (by simp only[go_sem]<;>rfl) (by simp only[go_sem]<;>rfl) (by simp only[go_sem]<;>rfl) rfl (by simp) (by simp only[Qe,Qi]at *;omega) (by decide) ?_;simp only[go_sem];have FK:(rowsC 900100 3 n m++[C.vec 66 3 0 n]).map (rnC (mvN 66 (900100+m)))=rowsC 900100 3 n (m+1):=by
             rw[waK,zhc (fun i hi=>by show(if 900100+i=66 then _ else _)=_;rw[Qb (by omega)]),<-zkr];show _++[C.vec (if 66=66 then 900100+m else 66) 3 0 n]=_;rw[Qc rfl]
            refine⟨m+1,Xp,(by show a.length-(m+1)<a.length-m;omega),?_⟩;refine GStep.trans (zdd (b:=66) (b':=900100+m) (by simp only[go_sem,zbH]<;>simp) (by show _<1000000;omega) (by omega)) ?_
            (refine Q6 rfl ?_ ?_ ?_ ?_<;>(try simp only[go_sem,QF,zbH,zyR,O4,O5,zhe,Q4 (n:=(m:Int)+1) (by omega) (by omega)])<;>(try simp))
            refine⟨fun i hi=>?_,by rw[ztb fun i hi=>by rw[Function.comp_apply,Function.comp_apply,zql (by decide),zql (by decide),zxI],zkr]⟩;by_cases GR:i=m
            .subst GR;rw[Qc rfl]
            .rw[Qb GR,Qc (by omega)];rw[<-wah,<-wah,<-wah,zhe,zhe,zhe,zg3]
       .obtain rfl:m=a.length:=by omega
        simp only[go_sem];have GS:zad 900100 cR Fa a.length++(Zb 900001 cI1 (Xr a.length)++(Zb 900002 cI1 xc++(cvE 900003 a.length (rowsC 900100 3 n a.length)++(Zb 900004 cR (Xm a.length)++[(900000,[QX 900001 1 (Xr a.length),QX 900002 1 xc,cvC 900003 a.length,.t (.lit (.int .i64 (n:Int))),QX 900004 3 (Xm a.length),.vec 900005 3 0 M]),(900005,Q5 cR zs)]))))=Zs 900000 (zcW (a.map lv) n):=by
         have E5:ls.length=a.length:=by rw[YY,Qm]
         subst Gi;rw[VJ,hM,LC,Ez,E3,<-YY];unfold Zs zb3 zcW zl6;simp only[E5]
        refine⟨.inr rfl,fun x hx=>?_,rfl,fun b cs h=>?_⟩
        .simp only[Qr]at hx
         subst hx;exact trivial
        .rw[<-GS]at h
         exact h
def zmC(S:SX):TV:=match S.broken with
 |none=>.tup [tLR (fnG S.n S.va),.one (.seq (some true) []),tB true]
 |some r=>.tup [.one (.seq (some true) []),tLR (fnG S.R (Z5 S r S.n)),tB false]
theorem zn6(c:C):rnC id c=c:=by cases c<;>simp[rnC]
theorem znu(ls:List Fm)(n:Nat):InvX (aOf ls) n ls.length (zcW ls n):=zsU _ _ _ _
theorem zn2{α:Type}{g:Nat->α}{n m:Nat}(h:n<=m):(fnG m g).take n=fnG n g:=by
 unfold fnG;rw[<-wdg,List.take_range,wbx h]
theorem zvT(a:List LL)(n:Nat){N L:Nat}(hn:n<=40)(hd:a.length<=8000)(hN:N<=1000000)(hL:L<=1000000000)(ha:∀ l∈a,BL N L l)(T:Nat)(hr:zib (zcW (a.map lv) n) T)(hs:(itX (zcW (a.map lv) n) T).step=none)
  {K:Nat} (hK:K<=400000000) (hB:∀ t,t<=T->BdX K (itX (zcW (a.map lv) n) t)) :
  Q7 prog 34 [.one (eL cL a),tI .i64 n] (zmC (itX (zcW (a.map lv) n) T)):=by
 refine QH QB call34 func34 rfl ntmps34 results34 (by simp) (by decide) ?_;have Oq:=zxJ a n (by omega) hN hL ha;have We:=znu (a.map lv) n;have Fo:=fun t=>(zdT We t).1
 rw[Qm]at We Fo;generalize GA:zcW (a.map lv) n=S0 at *
 obtain⟨R,hR⟩:∃ R,R=a.length:=⟨_,rfl⟩
 rw[<-hR]at We Fo;have m1:(if(0:Int)>(n:Int)then(0:Int)else(n:Int))=(n:Int):=Qb (by omega);have m2:(if(40:Int)<(n:Int)then(40:Int)else(n:Int))=(n:Int):=by(split<;>omega)
 simp only[go_sem];refine zdQ rfl (by simp only[go_sem]<;>rfl) (by simp only[go_sem]<;>rfl) (Qd _) ?_;simp only[go_sem,m1];skip;try simp only[go_sem,m2]
 refine zfi (H':=Q9 (Z6 900000 S0 [])) id (.inr rfl) Oq rfl (fun b hb=>?_) (fun _ _ _ _ h=>h) (fun b cs hb=>?_) (fun x hx=>?_) ?_
 .have hk:=zet (k:=b) (S:=S0) (b:=900000) (waF fun h=>hb (zbi.2 h))
  have:S0.R=R:=We.eR;exact⟨rfl,by show b<1000000;omega⟩
 .rw[zkZ]
  show Q9 (Zs 900000 S0) b=_;rw[hb];rw[way (g:=id) fun c _=>zn6 c,wb4]
 .rw[zkZ]
  show Q9 (Zs 900000 S0) x=none;exact waF fun h=>hx x h rfl
 have YM:zib S0 T->∀ t,t<T->(itX S0 t).step≠none:=fun h=>h
 simp only[go_sem];refine QJ (fun t:Nat=>stL 43 [(0,.one (.t (eL cL a))),(1,litI .i64 n),(7,.one (.ptr 900000 0))] (Z6 900000 (itX S0 t) [])) (fun t=>t<=T) (fun t=>T-t) 0 ?_ (Qk _) ?_
 ·(refine Q6 rfl ?_ ?_ ?_ ?_<;>(try simp only[go_sem])<;>(try simp only[Qz,Qw,Qt]))
  .rfl
  .exact of_eq_true zi0
 .intro t ht
  have hI:=Fo t;have Nd:=hB t ht;have Y0:=@zoR S0 t;have YM:=hr t;obtain⟨S,hS⟩:∃ S,S=itX S0 t:=⟨_,rfl⟩
  rw[<-hS]at hI Nd Y0 YM;have rb:∀ {H},AtS H 900000 S->RdC prog 57 [.one (.ptr 900000 0)] H (litI .i64 (zeb S.broken)):=fun hH=>zhC 900000 (zuS S (K:=K) (by omega) Nd) rfl (Qs.2 ⟨zfI,fun x hx=>by cases hx⟩) hH
  simp only[go_sem];rw[<-hS];refine zbL (.inr rfl) (rb (by simp only[go_sem])) ?_;by_cases Y1:t<T
  .obtain⟨r,c,hb,hc,he,JI,XD,_,K9,_⟩:=hI.stepd (Y0 (YM Y1))
   have G8:=hI.en;have Ot:=hI.eR;have c1:((r:Int)<0)=False:=Ql (by omega);have c2:((c:Int)<0)=False:=Ql (by omega);have rc:∀ {H},AtS H 900000 S->RdC prog 59 [.one (.ptr 900000 0),litI .i64 r] H (litI .i64 (zeb (S.column r))):=fun hH=>zhC 900000 (zoX S r (K:=K) (by omega) Nd (by omega)) rfl (Qs.2 ⟨zfI,Qs.2 ⟨trivial,fun x hx=>by cases hx⟩⟩) hH
   rw[hb];rw[hc]at rc;simp only[go_sem,c1];refine zbL (.inr rfl) (rc (by simp only[go_sem])) ?_;simp only[go_sem,c2];refine zou (S:=S) (S':=S.piv r c) 900000 (.inr rfl) (zuF S hI r c (K:=K) (by omega) Nd (by omega) (by omega) (by omega)) rfl rfl rfl (Qs.2 ⟨zfI,Qs.2 ⟨trivial,Qs.2 ⟨trivial,fun x hx=>by cases hx⟩⟩⟩) (by simp only[go_sem]) ?_;simp only[go_sem];refine⟨t+1,Y1,(by show T-(t+1)<T-t;omega),?_⟩
   (refine Q6 rfl ?_ ?_ ?_ ?_<;>(try simp only[go_sem])<;>(try simp only[Qz,Qw,Qv]))
   rw[he];exact fun k _ cs h=>by show(Q9 _ _).or _=_;rw[h];rfl
  .obtain rfl:t=T:=by omega
   rw[<-hS];unfold zmC;cases hb:S.broken with
   |none =>
    have S2:900005=900000+5:=rfl;have WO:=Yp (f:=cR) (xs:=fnG (S.n+S.R) S.va) zat;rw[Zj]at WO;have Kb:=zqm (fnG S.n S.va) (by rw[Zj];have:=Nd.dim;omega);simp only[go_sem];refine zqs (zbj (b:=900005) (sz:=3) (len:=S.n+S.R) (by simp only[go_sem]<;>rfl) WO) ?_;refine Q3 0 rfl ?_;have h0:((0:Int)<=(S.n:Int))=True:=Qh (by omega);have Wp:(fnG (S.n+S.R) S.va).take S.n=fnG S.n S.va:=zn2 (by omega);simp only[go_sem,h0,Wp];refine⟨⟨Qk _,by omega⟩,?_⟩;((repeat(refine Q3 0 rfl ?_;simp only[go_sem]));refine Q2 (Kb) rfl ?_;simp only[go_sem];(repeat(refine Q3 0 rfl ?_;simp only[go_sem])));exact zra rfl
   |some r =>
    have c1:((r:Int)<0)=False:=Ql (by omega);have Xo:S.column r=none:=by
     rw[<-hS]at hs;cases hc:S.column r with
     |none=>rfl
     |some c=>exfalso;simp[SX.step,hb,hc]at hs
    have JI:=(hI.broken hb).1;have K9:=(hI.broken hb).2.1;have G8:=hI.en;have Ot:=hI.eR;have c2:((-1:Int)<0)=True:=Qh (by omega);have rc:∀ {H},AtS H 900000 S->RdC prog 59 [.one (.ptr 900000 0),litI .i64 r] H (litI .i64 (zeb (S.column r))):=fun hH=>zhC 900000 (zoX S r (K:=K) (by omega) Nd (by omega)) rfl (Qs.2 ⟨zfI,Qs.2 ⟨trivial,fun x hx=>by cases hx⟩⟩) hH
    have rr:∀ {H},AtS H 900000 S->RdC prog 60 [.one (.ptr 900000 0),litI .i64 r,litI .i64 S.R] H (.one (.t (eL cR (fnG S.R (Z5 S r S.n))))):=fun hH=>zhC 900000 (zui S r (K:=K) (by omega) Nd (by omega) (by omega)) rfl (Qs.2 ⟨zfI,Qs.2 ⟨trivial,Qs.2 ⟨trivial,fun x hx=>by cases hx⟩⟩⟩) hH
    rw[Xo]at rc;simp only[go_sem,c1];refine zbL (.inr rfl) (rc (by simp only[go_sem])) ?_;simp only[go_sem,c2];have Ou:(a.length:Int)=(S.R:Int):=by omega
    simp only[go_sem,Ou];refine zbL (.inr rfl) (rr (by simp only[go_sem])) ?_;simp only[go_sem];exact zra rfl
theorem zsh{A:Nat->Nat->Rat}{n R:Nat}{S:SX}(h:InvX A n R S):∃ T,zib S T/\(itX S T).step=none:=by
 refine waF fun X8=>?_
 have key:∀ T,zib S T:=fun T=>by
  induction T with
  |zero=>intro s hs;omega
  |succ T ih =>
   intro s hs;rcases wau s T with h1|h1
   .exact ih s h1
   .obtain rfl:s=T:=by omega
    exact fun he=>X8 ⟨s,ih,he⟩
 exact zwY h (key _)
theorem zoA{n:Nat}{p:Nat->Rat}(hp:∀ v,n<=v->p v=0):∀ (l:List Mn) (k:Nat),WM k l->zdz l p=smQ (fun j=>(coM l j:Rat)*p j) n
 |[],_,_=>(zep fun j _=>by show((0:Int):Rat)*p j=0;exact wbK _).symm
 |m::l,k,w=>by
  have ih:=zoA hp l _ w.2.2;have h0:coM l m.1=0:=zgh w.2.2 (waO _);have e:smQ (fun j=>(coM (m::l) j:Rat)*p j) n=smQ (fun j=>(coM l j:Rat)*p j) n+(m.2:Rat)*p m.1:=by
   rcases wau m.1 n with h|h
   .rw[zdI h (f:=fun j=>(coM (m::l) j:Rat)*p j),zdI h (f:=fun j=>(coM l j:Rat)*p j),h0]
    have e1:(coM (m::l) m.1:Rat)=(m.2:Rat):=by rw[coM,Qc rfl]
    have e2:smQ (fun j=>if j=m.1 then 0 else(coM (m::l) j:Rat)*p j) n=smQ (fun j=>if j=m.1 then 0 else(coM l j:Rat)*p j) n:=Yi fun j _=>by
     by_cases e:j=m.1
     .rw[Qc e,Qc e]
     .rw[Qb e,Qb e,coM,Qb (fun h=>e h.symm)]
    rw[e1,e2];show _+_=_+((0:Int):Rat)*_+_;have e3:((0:Int):Rat)*p m.1=0:=wbK _;rw[e3,wc5]
   .rw[hp _ h,wct,wc5]
    exact Yi fun j hj=>by rw[coM,Qb (by omega)]
  rw[e,<-ih];show(m.2:Rat)*p m.1+zdz l p=_;exact Rat.add_comm _ _
theorem zoB{n i:Nat}{g:Nat->Rat}(h:i<n):(fnG n g).getD i 0=g i:=by
 rw[waE,wab (by rw[Zj];exact h),za4];rfl
def ptR(x:List Rat)(v:Nat):Rat:=x.getD v 0
theorem zyb{x:List Rat}{n v:Nat}(hx:x.length=n)(h:n<=v):ptR x v=0:=by
 unfold ptR;rw[waE,wcC (by omega)];rfl
theorem zpG{f:Fm}{n:Nat}{p:Nat->Rat}(hp:∀ v,n<=v->p v=0)(hw:WF f):atQ f p=(f.2:Rat)+smQ (fun j=>(coM f.1 j:Rat)*p j) n:=by
 unfold atQ;rw[zoA hp f.1 0 hw]
theorem zwF{S:SX}{r K:Nat}(hK:1<=K)(ha:∀ c,c<S.n->lQ (S.a r c)<=K):∀ c,c<=S.n->∀ v,lQ (Z5 S r c v)<=K:=by
 intro c
 induction c with
 |zero =>
  intro _ v;show lQ (if v=S.rw r-S.n then 1 else 0)<=K;have:=zjc;have:=zqg;split<;>omega
 |succ c ih =>
  intro hc v;have h1:=ih (by omega) v;show lQ ((if S.n<=S.cl c then fun v=>if v=S.cl c-S.n then -(S.a r c)else Z5 S r c v else Z5 S r c) v)<=K;by_cases h:S.n<=S.cl c
  .rw[Qc h]
   show lQ (if v=S.cl c-S.n then -(S.a r c)else Z5 S r c v)<=K;split
   .rw[zfm];exact ha c (by omega)
   .exact h1
  .rw[Qb h];exact h1
def zdp(ls:List Fm)(n:Nat)(g:List Rat):Prop:=(∀ q∈g,0<=q)/\(∀ v,v<n->smQ (fun i=>g.getD i 0*(coM (ls.getD i ([],0)).1 v:Rat)) ls.length=0)/\0<smQ (fun i=>g.getD i 0*((ls.getD i ([],0)).2:Rat)) ls.length
theorem zdp.none{ls:List Fm}{n:Nat}{g:List Rat}(h:zdp ls n g)(hw:∀ f∈ls,WF f){p:Nat->Rat}(hp:∀ v,n<=v->p v=0)(hx:∀ f∈ls,atQ f p<=0):False:=by
 obtain⟨h1,h2,h3⟩:=h;have hg:∀ i,0<=g.getD i 0:=fun i=>by
  rw[waE];cases e:g[i]? with
  |none=>exact wds
  |some q=>exact h1 q (wcU e)
 have Xb:0<=smQ (fun i=>g.getD i 0 * -(atQ (ls.getD i ([],0)) p)) ls.length:=zku fun i hi=>by
  refine Rat.mul_nonneg (hg i) ?_;rw[waE,wab hi];have:=hx _ (Qf hi);show 0<=-(atQ ls[i] p)
  grind
 have e:smQ (fun i=>g.getD i 0 * -(atQ (ls.getD i ([],0)) p)) ls.length = -smQ (fun i=>g.getD i 0*((ls.getD i ([],0)).2:Rat)) ls.length:=by
  have e1:smQ (fun i=>g.getD i 0 * -(atQ (ls.getD i ([],0)) p)) ls.length=smQ (fun i=>(-1)*(g.getD i 0*((ls.getD i ([],0)).2:Rat))+smQ (fun j=>(-(p j))*(g.getD i 0*(coM (ls.getD i ([],0)).1 j:Rat))) n) ls.length:=Yi fun i hi=>by
   have UQ:WF (ls.getD i ([],0)):=by
    rw[waE,wab hi];exact hw _ (Qf hi)
   rw[zpG hp UQ];have e2:smQ (fun j=>(-(p j))*(g.getD i 0*(coM (ls.getD i ([],0)).1 j:Rat))) n=(-(g.getD i 0))*smQ (fun j=>(coM (ls.getD i ([],0)).1 j:Rat)*p j) n:=by
    rw[<-zcO];exact Yi fun j _=>by grind
   rw[e2];grind
  rw[e1,zhx,zle,zcO,zep (f:=fun j=>smQ (fun i=>-(p j)*(g.getD i 0*(coM (ls.getD i ([],0)).1 j:Rat))) ls.length) fun j hj=>by rw[zcO,h2 j hj];exact wct _]
  grind
 rw[e]at Xb
 grind
abbrev zmF:TV:=.one (.seq (some true) [])
theorem zfb{α:Type}{n:Nat}{g:Nat->α}{q:α}(h:q∈fnG n g):∃ i,i<n/\q=g i:=by
 unfold fnG at h;obtain⟨i,hi,rfl⟩:=Qp.1 h;exact⟨i,wav.1 hi,rfl⟩
end Go.Proofs.YtlgjjcmljmjenaaGreat
