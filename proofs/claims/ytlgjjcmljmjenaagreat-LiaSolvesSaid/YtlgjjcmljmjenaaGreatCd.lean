/- At every input the call answers true and leaves its arguments as they were; no conditions. -/
import Derived.Test.YtlgjjcmljmjenaaGreatCc
import Derived.Test.YtlgjjcmljmjenaaGreatAf
set_option linter.unusedSimpArgs false
set_option linter.unusedVariables false
set_option maxRecDepth 100000
set_option maxHeartbeats 8000000
namespace Go.Proofs.YtlgjjcmljmjenaaGreat
open Go Go.Abs Go.Proofs.Tryz
abbrev xFv(c:Fm)(out:List Fm):QD:=upd (xF c) (PIN+1) (some (Q5 cF out))
theorem ZB(f:Fm):(cF f).length=3:=rfl
theorem zqc{c:Fm}{out:List Fm}(b:Nat)(h:b<PIN):xFv c out b=none:=by
 show(if b=PIN+1 then _ else xF c b)=none;rw[Qb (by omega)];exact zeE b h
theorem zq9{f:Fm}{out:List Fm}(b:Nat)(cs:List C)(h:xFv f out b=some cs):∀ c∈cs,inC (xFv f out) c:=by
 have h:(if b=PIN+1 then some (Q5 cF out)else xF f b)=some cs:=h;split at h
 .cases h
  intro c hc;unfold Q5 at hc;obtain⟨t,_,rfl⟩:=Qp.1 hc;trivial
 .have h:(if b=PIN then some ((cF f).map .t)else none)=some cs:=h
  split at h
  .cases h
   intro c hc;obtain⟨t,_,rfl⟩:=Qp.1 hc;trivial
  .cases h
theorem zrE{F:FuncId}{ys args:List AV}{f:Fm}{H:QD}{r:AV}(d:Nat)(h:Zf prog F args (xF f) r (xF f))(YY:ys=args.map (thA (fun _=>d)))
  (YB:∀ x∈args,inA (xF f) x) (hH:H d=some ((cF f).map .t)):RdC prog F ys H (thA (fun _=>d) r):=by
 subst YY;have hx:∀ {f:Fm} {b:Nat},xF f b≠none->b=PIN:=fun {f b} h=>by
  by_cases e:b=PIN
  .exact e
  .exact(h (show(if b=PIN then some ((cF f).map C.t)else none)=none from Qb e)).elim
 have hs:∀ {f:Fm} {b:Nat} {cs:List C},xF f b=some cs->cs=(cF f).map .t:=fun {f b cs} h=>by
  have h:(if b=PIN then some ((cF f).map C.t)else none)=some cs:=h;split at h
  .cases h;rfl
  .cases h
 refine zeC (fun _=>d) h zeE (fun b b' h h' _=>(hx h).trans (hx h').symm) zfE YB fun b cs hb=>?_
 rw[hs hb];exact hH
def th2(d e k:Nat):Nat:=if k=0 then d else e
theorem zyO{F:FuncId}{ys args:List AV}{f:Fm}{out:List Fm}{H:QD}{r:AV}(d e:Nat)(Od:d≠e)(h:Zf prog F args (xFv f out) r (xFv f out))(YY:ys=args.map (thA (th2 d e)))
  (YB:∀ x∈args,inA (xFv f out) x) (hH:H d=some ((cF f).map .t)) (XF:H e=some (Q5 cF out)):RdC prog F ys H (thA (th2 d e) r):=by
 subst YY;have hx:∀ {b:Nat},xFv f out b≠none->b=PIN\/b=PIN+1:=fun {b} h=>by
  by_cases e1:b=PIN+1
  .exact .inr e1
  .by_cases e2:b=PIN
   .exact .inl e2
   .refine(h ?_).elim
    show(if b=PIN+1 then some (Q5 cF out)else if b=PIN then some ((cF f).map C.t)else none)=none;rw[Qb e1,Qb e2]
 have t0:thI (th2 d e) PIN=d:=rfl;have t1:thI (th2 d e) (PIN+1)=e:=by show(if PIN+1-PIN=0 then d else e)=e;rw[Qb (by omega)]
 refine zeC (th2 d e) h zqc (fun b b' h h' hb=>?_) zq9 YB fun b cs hb=>?_
 .rcases hx h with rfl|rfl<;>rcases hx h' with rfl|rfl
  .rfl
  .rw[t0,t1]at hb;exact(Od hb).elim
  .rw[t0,t1]at hb;exact(Od hb.symm).elim
  .rfl
 .rcases hx (fun e=>by rw[e]at hb;cases hb)with rfl|rfl
  .rw[t0]
   have hb:(if PIN=PIN+1 then some (Q5 cF out)else if PIN=PIN then some ((cF f).map C.t)else none)=some cs:=hb;rw[Qb (by omega),Qc rfl]at hb;cases hb;exact hH
  .rw[t1]
   have hb:(if PIN+1=PIN+1 then some (Q5 cF out)else xF f (PIN+1))=some cs:=hb;rw[Qc rfl]at hb;cases hb
   rw[XF];unfold Q5;rw[wac];rfl
theorem zmp{α:Type}(p:α->Bool):∀ x:List α,x.any p=true->∃ k:Nat,∃ hk:k<x.length,p x[k]=true/\∀ q∈x.take k,p q=false
 |[],h=>by cases h
 |u::x,h=>by
  cases c:p u with
  |true=>exact⟨0,Nat.zero_lt_succ _,c,fun q hq=>by cases hq⟩
  |false =>
   rw[List.any_cons,c,wb7]at h;obtain⟨k,hk,h1,h2⟩:=zmp p x h;exact⟨k+1,Nat.succ_lt_succ hk,h1,fun q hq=>by
    rcases wab.1 hq with rfl|hq
    .exact c
    .exact h2 q hq⟩
theorem zzy{c:Fm}{out:List Fm}:inA (xFv c out) (.one (.vec (PIN+1) 3 0 out.length)):=by
 show(if PIN+1=PIN+1 then some _ else _)≠none;rw[Qc rfl];simp
theorem zzz{c:Fm}{out:List Fm}{F:FuncId}:inA (xFv c out) (.one (.fn F [(PIN,0)])):=by
 intro p hp;obtain rfl:=Qr.1 hp;show(if PIN=PIN+1 then _ else if PIN=PIN then some _ else none)≠none;rw[Qb (by omega),Qc rfl];simp
theorem zs5(c:Fm)(out:List Fm)(F:FuncId)(p:Fm->Bool)(hx:out.length<1000000000)(hp:∀ o∈out,Zf prog F [.agg ((cF o).map .t),.one (.ptr PIN 0)] (xF c) (QO (p o)) (xF c))
  (n:Int) (hn:(∃ k:Nat,∃ hk:k<out.length,n=k/\p out[k]=true/\∀ q∈out.take k,p q=false)\/(n = -1/\∀ q∈out,p q=false)) :
  Zf prog 76 [.one (.vec (PIN+1) 3 0 out.length),.one (.fn F [(PIN,0)])] (xFv c out) (litI .i64 n) (xFv c out):=by
 refine zaq QC call76 func76 rfl ntmps76 results76 (by simp) (by decide) ?_ ?_ ?_ ?_ ?_
 .exact zqc
 .exact fun b=>wbn
 .exact zq9
 .trivial
 .simp only[go_sem,PIN]
  refine QK (fun i:Nat=>stL 19 [(0,.one (.vec 1000001 3 0 out.length)),(1,.one (.fn F [(1000000,0)])),(6,.one (.vec 1000001 3 0 out.length)),(7,litI .i64 out.length),(8,litI .i64 i)]
    [(1000000,(cF c).map .t),(1000001,Q5 cF out)])
    (fun i=>i<=out.length/\∀ q∈out.take i,p q=false) (fun i=>out.length-i) 0 ?_ ⟨Qk _,by rw[wao];intro q hq;cases hq⟩ ?_
  ·(refine Q7 rfl ?_ ?_ ?_ ?_<;>(try simp only[go_sem,QH,PIN])<;>(try simp))
  .rintro i ⟨hi,Yy⟩
   simp only[go_sem];refine QI (fun Yw=>?_) (fun YG=>?_)
   .have Yv:i<out.length:=by omega
    have Y1:(Q5 cF out).drop (i*3)=(cF out[i]).map .t++Q5 cF (out.drop (i+1)):=zio ZB Yv;have YW:(Q5 cF out).length=out.length*3:=zcC ZB;have h:=hp _ (Qh Yv);have Yx:p out[i]=false->∀ q∈out.take (i+1),p q=false:=fun h q hq=>by
     rw[Zd Yv]at hq;rcases wan.1 hq with hq|hq
     .exact Yy q hq
     .obtain rfl:=Qr.1 hq;exact h
    have VV:p out[i]=true->n=i:=fun h=>by
     rcases hn with⟨k,hk,rfl,h1,h2⟩|⟨_,h2⟩
     .rcases wd0 k i with c|c|c
      .have:out[k]∈out.take i:=waK.2 ⟨k,by simp;omega,by simp⟩
       rw[Yy _ this]at h1;cases h1
      .rw[c]
      .have:out[i]∈out.take k:=waK.2 ⟨i,by simp;omega,by simp⟩
       rw[h2 _ this]at h;cases h
     .rw[h2 _ (Qh Yv)]at h;cases h
    generalize out[i]=u at *
    simp only[go_sem,Y1,Yw]
    (repeat(refine Qg (by omega) ?_))
    have rd:∀ {H:QD},H 1000000=some ((cF c).map .t)->RdC prog F [.agg ((cF u).map .t),.one (.ptr 1000000 0)] H (QO (p u)):=fun {H} hH =>
     zrE 1000000 h rfl (Q2.2 ⟨(fun c hc=>by obtain⟨t,_,rfl⟩:=Qp.1 hc;trivial),Q2.2 ⟨zms,fun x hx=>by cases hx⟩⟩) hH
    refine zbL (.inr rfl) (rd (by simp only[go_sem]<;>rfl)) ?_;cases c1:p u with
    |true =>
     rw[VV c1];simp only[go_sem];refine⟨.inr rfl,(fun x hx=>by obtain rfl:=Qr.1 hx;trivial),rfl,fun b hb=>?_⟩;have hb:1000000<=b:=hb;show(if b=1000000 then some _ else if b=1000001 then some _ else none)=if b=1000000+1 then some _ else if b=1000000 then some _ else none
     by_cases e1:b=1000000
     .rw[Qc e1,Qb (by omega),Qc e1];rfl
     .rw[Qb e1,Qb e1]
    |false =>
     simp only[go_sem];refine⟨i+1,⟨Yv,Yx c1⟩,(by show out.length-(i+1)<out.length-i;omega),?_⟩
     (refine Q7 rfl ?_ ?_ ?_ ?_<;>(try simp only[go_sem,QH,Q6 (n:=(i:Int)+1) (by omega) (by omega)])<;>(try simp))
   .obtain rfl:i=out.length:=by omega
    rw[Q1]at Yy;have e:n = -1:=by
     rcases hn with⟨k,hk,_,h1,_⟩|⟨h,_⟩
     .rw[Yy _ (Qh hk)]at h1;cases h1
     .exact h
    rw[e];simp only[go_sem];refine⟨.inr rfl,(fun x hx=>by obtain rfl:=Qr.1 hx;trivial),rfl,fun b hb=>?_⟩;have hb:1000000<=b:=hb;show(if b=1000000 then some _ else if b=1000001 then some _ else none)=if b=1000000+1 then some _ else if b=1000000 then some _ else none
    by_cases e1:b=1000000
    .rw[Qc e1,Qb (by omega),Qc e1];rfl
    .rw[Qb e1,Qb e1]
theorem xF_f{c:Fm}{F:FuncId}:inA (xF c) (.one (.fn F [(PIN,0)])):=by
 intro p hp;obtain rfl:=Qr.1 hp;show(if PIN=PIN then some _ else none)≠none;simp
theorem zss(c:Fm)(F:FuncId):Zf prog 76 [.one (.t (.seq (some true) [])),.one (.fn F [(PIN,0)])] (xF c) (litI .i64 (-1)) (xF c):=by
 refine zaq QC call76 func76 rfl ntmps76 results76 (by simp) (by decide) ?_ ?_ ?_ ?_ ?_
 .exact zeE
 .exact fun b=>wbn
 .exact zfE
 .trivial
 .simp only[go_sem,PIN]
  refine⟨1,_,GStep.refl _,?_⟩;simp only[go_sem];exact⟨.inr rfl,(fun x hx=>by obtain rfl:=Qr.1 hx;trivial),rfl,fun b hb=>rfl⟩
end Go.Proofs.YtlgjjcmljmjenaaGreat
