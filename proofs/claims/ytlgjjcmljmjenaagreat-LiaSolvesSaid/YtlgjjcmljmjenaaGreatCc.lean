/- At every input the call answers true and leaves its arguments as they were; no conditions. -/
import Derived.Test.YtlgjjcmljmjenaaGreatCb
import Derived.Test.YtlgjjcmljmjenaaGreatPa
import Derived.Test.YtlgjjcmljmjenaaGreatAe
set_option linter.unusedSimpArgs false
set_option linter.unusedVariables false
set_option maxRecDepth 100000
set_option maxHeartbeats 16000000
namespace Go.Proofs.YtlgjjcmljmjenaaGreat
open Go Go.Abs Go.Proofs.Tryz
def FLs(a:List LL):Prop:=(∀ l∈a,FL l)/\a.length<=10
instance (a:List LL):Decidable (FLs a):=by unfold FLs;exact inferInstance
def FR(x:List QQ):Prop:=(∀ q∈x,q.2.1.length<=3/\q.2.2.length<=3)/\x.length<=12
instance (x:List QQ):Decidable (FR x):=by unfold FR;exact inferInstance
theorem zmM(x:List QQ)(p:QQ->Bool)(F:FuncId)(hx:x.length<1000000000)(hp:∀ q∈x,Q9 prog F [.agg (cQ q)] (tB (p q)))(n:Int)(hn:(∃ k:Nat,∃ hk:k<x.length,n=k/\p x[k]=true/\∀ q∈x.take k,p q=false)\/(n = -1/\∀ q∈x,p q=false)) :
  zhY prog 89 [.one (.t (eL cQ x)),.one (.fn F [])] (tI .i64 n):=by
 refine zmE QC call89 func89 rfl ntmps89 results89 (by simp) (by decide) ?_;simp only[go_sem];refine QK (fun i:Nat=>stL 19 [(0,.one (.t (eL cQ x))),(1,.one (.fn F [])),(6,.one (.t (eL cQ x))),(7,litI .i64 x.length),(8,litI .i64 i)] [])
   (fun i=>i<=x.length/\∀ q∈x.take i,p q=false) (fun i=>x.length-i) 0 ?_ ⟨Qk _,by rw[wao];intro q hq;cases hq⟩ ?_
 ·(refine Q7 rfl ?_ ?_ ?_ ?_<;>(try simp only[go_sem])<;>(try simp))
 .rintro i ⟨hi,Yy⟩
  simp only[go_sem];refine QI (fun Yw=>?_) (fun YG=>?_)
  .have Yv:i<x.length:=by omega
   have Y1:QM cQ x i=cQ x[i]:=Q8 Yv;have h:=hp _ (Qh Yv);have Yx:p x[i]=false->∀ q∈x.take (i+1),p q=false:=fun h q hq=>by
    rw[Zd Yv]at hq;rcases wan.1 hq with hq|hq
    .exact Yy q hq
    .obtain rfl:=Qr.1 hq;exact h
   have VV:p x[i]=true->n=i:=fun h=>by
    rcases hn with⟨k,hk,rfl,h1,h2⟩|⟨_,h2⟩
    .rcases wd0 k i with c|c|c
     .have:x[k]∈x.take i:=waK.2 ⟨k,by simp;omega,by simp⟩
      rw[Yy _ this]at h1;cases h1
     .rw[c]
     .have:x[i]∈x.take k:=waK.2 ⟨i,by simp;omega,by simp⟩
      rw[h2 _ this]at h;cases h
    .rw[h2 _ (Qh Yv)]at h;cases h
   generalize x[i]=u at *
   simp only[go_sem,Y1,Yw]
   (repeat(refine Qg (by omega) ?_))
   cases c:p u with
   |true =>
    rw[c]at h;rw[VV c];refine Q3 h rfl ?_;simp only[go_sem];try rfl
   |false =>
    rw[c]at h;refine Q3 h rfl ?_;simp only[go_sem];refine⟨i+1,⟨Yv,Yx c⟩,(by show x.length-(i+1)<x.length-i;omega),?_⟩
    (refine Q7 rfl ?_ ?_ ?_ ?_<;>(try simp only[go_sem,Q6 (n:=(i:Int)+1) (by omega) (by omega)])<;>(try simp))
  .obtain rfl:i=x.length:=by omega
   rw[Q1]at Yy;have e:n = -1:=by
    rcases hn with⟨k,hk,_,h1,_⟩|⟨h,_⟩
    .rw[Yy _ (Qh hk)]at h1;cases h1
    .exact h
   rw[e];simp only[go_sem];try rfl
def negX(a:List LL)(x:List QQ):Prop:=∃ q∈x.take (min a.length x.length),qQ q<0
instance (a:List LL) (x:List QQ):Decidable (negX a x):=by unfold negX;exact inferInstance
def brkG(G:List Rat):Prop:=∃ g∈G,¬g.den=1
instance (G:List Rat):Decidable (brkG G):=by unfold brkG;exact inferInstance
abbrev xF(f:Fm):QD:=upd noH PIN (some ((cF f).map .t))
theorem zeE{f:Fm}(b:Nat)(h:b<PIN):xF f b=none:=by
 show(if b=PIN then _ else none)=none;rw[Qb (by omega)]
theorem zhB{f g:Fm}(b:Nat):xF f b=none↔xF g b=none:=by
 show(if b=PIN then some _ else none)=none↔(if b=PIN then some _ else none)=none;split<;>simp
theorem zfE{f:Fm}(b:Nat)(cs:List C)(h:xF f b=some cs):∀ c∈cs,inC (xF f) c:=by
 have h:(if b=PIN then some ((cF f).map .t)else none)=some cs:=h;split at h
 .cases h
  intro c hc;obtain⟨t,_,rfl⟩:=Qp.1 hc;trivial
 .cases h
theorem zyP(f:Fm)(k:Int){N L:Nat}(hN:N<=1000000)(Mk:1<=N)(hL:L<=4000000000)(wf:WF f)(hf:Bd N L f)(hk:lN k<=L) :
  Zf prog 140 [.one (.ptr PIN 0),.agg [.t (.lit (.bool (decide (k<0)))),.t (eN (dig k.natAbs))]] (xF f) (.tup []) (xF (QP f (scF (Ze k) (-1)))):=by
 refine zaq QC call140 func140 rfl ntmps140 results140 (by simp) (by decide) ?_ ?_ ?_ ?_ ?_
 .exact zeE
 .exact fun b=>zhB b
 .exact zfE
 .trivial
 .have o1:=zeR k (by omega)
  have o2:=zxz f (Ze k) (N:=N) (L:=L) hN hL wf (by exact trivial) hf ⟨by show 0<=N;omega,(fun m hm=>by cases hm),hk⟩;simp only[go_sem,PIN]
  (repeat(refine Qg (by omega) ?_))
  refine Q4 0 rfl ?_;simp only[go_sem,PIN];((repeat(refine Q4 0 rfl ?_;simp only[go_sem,PIN]));refine Q3 (o1) rfl ?_;simp only[go_sem];(repeat(refine Q4 0 rfl ?_;simp only[go_sem,PIN]));refine Q3 (o2) rfl ?_;simp only[go_sem,PIN];(repeat(refine Q4 0 rfl ?_;simp only[go_sem,PIN])));refine⟨.inl rfl,(fun x hx=>by cases hx),rfl,fun b hb=>?_⟩;have hb:1000000<=b:=hb;generalize QP f (scF (Ze k) (-1))=g;show(if b=1000000 then some _ else if b=3 then some _ else if b=1000000 then some _ else none)=if b=1000000 then some _ else none
  by_cases e:b=1000000
  .rw[Qc e,Qc e];rfl
  .rw[Qb e,Qb e,Qb (by omega),Qb e]
theorem zzb(f:Fm)(k:Int)(v:Nat){N L:Nat}(hN:N<=1000000)(Mk:1<=N)(hL:L<=4000000000)(wf:WF f)(hf:Bd N L f)(hk:lN k+1<=L)(hv:v<9223372036854775808) :
  Zf prog 139 [.one (.ptr PIN 0),.agg [.t (.lit (.bool (decide (k<0)))),.t (eN (dig k.natAbs))],.one (.t (.seq (some false) [[.lit (.int .i64 v)]]))] (xF f) (.tup []) (xF (QP f (scF (Z7 v) k))):=by
 refine zaq QC call139 func139 rfl ntmps139 results139 (by simp) (by decide) ?_ ?_ ?_ ?_ ?_
 .exact zeE
 .exact fun b=>zhB b
 .exact zfE
 .trivial
 .have o1:=zre v (by omega) (by omega)
  rw[wbD]at o1;have bv:Bd N L (Z7 v):=⟨Mk,(fun m hm=>by obtain rfl:=Qr.1 hm;exact⟨by show v<_;omega,by show lN 1<=L;have:lN 1<=1:=zap (by omega);omega⟩),by show lN 0<=L;rw[ZI];omega⟩
  have wv:WF (Z7 v):=⟨Qk _,(by show(1:Int)≠0;decide),trivial⟩
  have b1:Bd 1 1 (Z7 v):=⟨Qd _,(fun m hm=>by obtain rfl:=Qr.1 hm;exact⟨by show v<_;omega,zap (by omega)⟩),by show lN 0<=1;rw[ZI];omega⟩
  have o2:=zkn (Z7 v) k (N:=1) (L:=1) (by decide) (by decide) wv b1 (by omega);obtain⟨Fi,EJ⟩:∃ Fi:Nat->Fm,Fi=fun i=>if i=0 then f else QP f (scF (Z7 v) k):=⟨_,rfl⟩
  simp only[go_sem,PIN]
  (repeat(refine Qg (by omega) ?_))
  refine QK (fun i:Nat=>stL 27 [(0,.one (.ptr 1000000 0)),(4,.one (.ptr 4 0)),(8,.one (.t (.seq (some false) [[.lit (.int .i64 v)]]))),(9,litI .i64 1),(10,litI .i64 i)]
   [(4,[.t (.lit (.bool (decide (k<0)))),.t (eN (dig k.natAbs))]),(1000000,(cF (Fi i)).map .t)]) (fun i=>i<=1) (fun i=>1-i) 0 ?_ (Qk _) ?_
  .rw[show Fi 0=f by rw[EJ];rfl]
   (refine Q7 rfl ?_ ?_ ?_ ?_<;>(try simp only[go_sem,PIN])<;>(try simp))
  .intro i hi
   simp only[go_sem];refine QI (fun Yw=>?_) (fun YG=>?_)
   .obtain rfl:i=0:=by omega
    rw[show Fi 0=f by rw[EJ];rfl];have bs:=zhH b1 k;have o3:=zo3 f (scF (Z7 v) k) (N:=N) (L:=L) hN (by omega) wf (zbC wv k) hf ⟨by have:=bs.1;omega,fun m hm=>by have:=bs.2.1 m hm;exact⟨this.1,by omega⟩,by have:=bs.2.2;omega⟩;have Pp:QP f (scF (Z7 v) k)=Fi 1:=by rw[EJ];rfl
    rw[Pp]at o3;generalize scF (Z7 v) k=w at *
    generalize hF:Fi 1=F1 at *
    simp only[go_sem];refine⟨by simp,Q4 0 rfl ?_⟩;simp only[go_sem];((repeat(refine Q4 0 rfl ?_;simp only[go_sem,PIN]));refine Q3 (o1) rfl ?_;simp only[go_sem];(repeat(refine Q4 0 rfl ?_;simp only[go_sem,PIN]));refine Q3 (o2) rfl ?_;simp only[go_sem];(repeat(refine Q4 0 rfl ?_;simp only[go_sem,PIN]));refine Q3 (o3) rfl ?_;simp only[go_sem];(repeat(refine Q4 0 rfl ?_;simp only[go_sem,PIN])));refine⟨1,Qd _,(by decide),?_⟩
    (refine Q7 rfl ?_ ?_ ?_ ?_<;>(try simp only[go_sem,hF,Q6 (n:=1) (by omega) (by omega)])<;>(try simp))
   .obtain rfl:i=1:=by omega
    rw[show QP f (scF (Z7 v) k)=Fi 1 by rw[EJ];rfl];generalize Fi 1=F1 at *
    simp only[go_sem];refine⟨.inl rfl,(fun x hx=>by cases hx),rfl,fun b hb=>?_⟩;have hb:1000000<=b:=hb;show(if b=4 then some _ else if b=1000000 then some _ else none)=if b=1000000 then some _ else none
    rw[Qb (by omega)];by_cases e:b=1000000
    .rw[Qc e,Qc e];rfl
    .rw[Qb e,Qb e]
theorem zww{m:Nat}{F:FuncId}{ys args:List AV}{f g:Fm}{σ:St}{K:AV->St->Prop}(d:Nat)(h:Zf prog F args (xF f) (.tup []) (xF g))(hm:m=1\/m=2)(YY:ys=args.map (thA (fun _=>d)))
  (YB:∀ x∈args,inA (xF f) x) (hH:σ.H d=some ((cF f).map .t)) (hK:K (.tup []) (σ.withH (upd σ.H d (some ((cF g).map .t))))):ZK prog m F ys σ K:=by
 have hx:∀ {f:Fm} {b:Nat},xF f b≠none->b=PIN:=fun {f b} h=>by
  by_cases e:b=PIN
  .exact e
  .exact(h (show(if b=PIN then some ((cF f).map C.t)else none)=none from Qb e)).elim
 have hs:∀ {f:Fm} {b:Nat} {cs:List C},xF f b=some cs->cs=(cF f).map .t:=fun {f b cs} h=>by
  have h:(if b=PIN then some ((cF f).map C.t)else none)=some cs:=h;split at h
  .cases h;rfl
  .cases h
 have VT:∀ f:Fm,((cF f).map C.t).map (thC fun _=>d)=(cF f).map .t:=fun f=>rfl
 refine zi0 (fun _=>d) hm h YY zeE (fun b=>zhB b) (fun b b' h h' _=>(hx h).trans (hx h').symm) zfE YB (fun b cs hb=>?_) (fun b cs hb=>?_) (fun b hb=>?_) hK
 .rw[hs hb,VT];exact hH
 .rw[hs hb,VT];exact Qc rfl
 .exact Qb (fun e=>hb PIN (by show(if PIN=PIN then some _ else none)≠none;simp) e.symm)
theorem HR.weakH{ρ:Nat->Option Nat}{ok:Nat->Prop}{H:QD}{w:World}(h:HR ρ ok H w){b:Nat}{cs cs':List C}(hb:H b=some cs)(hw:WeakL cs cs'):HR ρ ok (upd H b (some cs')) w:=by
 refine⟨fun b' cs2 hb'=>?_,fun b' hb'=>?_,h.inj,h.okR⟩
 .simp only[upd]at hb'
  split at hb'
  .rename_i e;subst e;cases hb'
   obtain⟨c,arr,el,k1,k2,k3,k4⟩:=h.heap _ _ hb;exact⟨c,arr,el,k1,k2,by rw[<-hw.len];exact k3,fun j hj Yz=>(k4 j (by rw[hw.len];exact hj) Yz).weakC (hw.get j _ hj)⟩
  .exact h.heap b' cs2 hb'
 .simp only[upd]at hb'
  split at hb'
  .cases hb'
  .exact h.dom b' hb'
theorem zsH{P:Program}{m:Nat}{f:FuncId}{args:List AV}{H':QD}{r:AV}{σ:St}{K:AV->St->Prop}(hm:m=1\/m=2){b:Nat}{cs cs':List C}(hb:σ.H b=some cs)(hw:WeakL cs cs')
  (h:Zf P f args (upd σ.H b (some cs')) r H') (hK:K r (σ.withH H')):ZK P m f args σ K :=
 .inr (.inl ⟨hm,_,_,⟨h.1,fun ρ ok w vs hh ha=>h.2 ρ ok w vs (HR.weakH hh hb hw) ha⟩,hK⟩)
theorem zvM{m:Nat}{F:FuncId}{ys args:List AV}{f g:Fm}{σ:St}{K:AV->St->Prop}(d:Nat){cs:List C}(h:Zf prog F args (xF f) (.tup []) (xF g))(hm:m=1\/m=2)(YY:ys=args.map (thA (fun _=>d)))
  (YB:∀ x∈args,inA (xF f) x) (hH:σ.H d=some cs) (hw:WeakL cs ((cF f).map .t)) (hK:K (.tup []) (σ.withH (upd σ.H d (some ((cF g).map .t))))):ZK prog m F ys σ K:=by
 subst YY;refine zsH (H':=upd σ.H d (some ((cF g).map .t))) hm hH hw ?_ hK;have hx:∀ {f:Fm} {b:Nat},xF f b≠none->b=PIN:=fun {f b} h=>by
  by_cases e:b=PIN
  .exact e
  .exact(h (show(if b=PIN then some ((cF f).map C.t)else none)=none from Qb e)).elim
 have hs:∀ {f:Fm} {b:Nat} {cs:List C},xF f b=some cs->cs=(cF f).map .t:=fun {f b cs} h=>by
  have h:(if b=PIN then some ((cF f).map C.t)else none)=some cs:=h;split at h
  .cases h;rfl
  .cases h
 have VT:∀ f:Fm,((cF f).map C.t).map (thC fun _=>d)=(cF f).map .t:=fun f=>rfl
 refine h.ren (fun _=>d) zeE (fun b=>zhB b) (fun b b' h h' _=>(hx h).trans (hx h').symm) zfE YB (fun b cs hb=>?_) (fun b cs hb=>?_) (fun b hb=>?_)
 .rw[hs hb,VT];exact Qc rfl
 .rw[hs hb,VT];exact Qc rfl
 .have YJ:b≠d:=fun e=>hb PIN (by show(if PIN=PIN then some _ else none)≠none;simp) e.symm
  exact(Qb YJ).trans (Qb YJ).symm
theorem zms{f:Fm}:inA (xF f) (.one (.ptr PIN 0)):=by show(if PIN=PIN then some _ else none)≠none;simp
theorem zqt{X:QD}{x y:T}:inA X (.agg [.t x,.t y]):=by
 intro c hc;rcases wab.1 hc with rfl|hc
 .trivial
 .obtain rfl:=Qr.1 hc;trivial
theorem zuB:WeakL [.t (.seq (some true) []),.t (.lit (.bool false)),.t (.seq (some true) [])] ((cF ([],0)).map .t):=by
 show WeakL _ [.t (eL cMn []),.t (.lit (.bool false)),.t (eN (dig 0))];rw[Zi];exact .cons .seq (.cons .refl (.cons .seq .nil))
theorem zuC(vi:Int)(q:QQ){K:Nat}(Vz : -9223372036854775808<=vi)(VD:vi<9223372036854775808)(hK:K<=1800000000)(O5:1<=K)(h1:q.2.1.length<=K)(h2:q.2.2.length<=K)(F:Fm)(hF:F=QP (QP ([],0) (scF (Z7 vi.toNat) 1)) (scF (Ze (qQ q).floor) (-1))) :
  Q9 prog 92 [tI .i64 vi,.agg (cQ q)] (.tup [eF F,eF (zcX F)]):=by
 refine QJ QC call92 func92 rfl ntmps92 results92 (by simp) (by decide) ?_;obtain⟨v,Rv⟩:∃ v,v=vi.toNat:=⟨_,rfl⟩
 rw[<-Rv]at hF;have hv:v<9223372036854775808:=by omega
 have o0:=w_Of 1 (by decide) (by decide);have o1:=zwO q.1 q.2.1 q.2.2 (by omega) (by omega);have wv:WF (Z7 v):=⟨Qk _,(by show(1:Int)≠0;decide),trivial⟩
 have p1:=zzb ([],0) 1 v (N:=1) (L:=2) (by decide) (by decide) (by decide) trivial ⟨by decide,(fun m hm=>by cases hm),by show lN 0<=2;rw[ZI];omega⟩ (by have:lN 1<=1:=zap (by omega);omega) hv;simp only[go_sem]
 (repeat(refine Qg (by omega) ?_))
 refine Q3 o0 rfl ?_;simp only[go_sem];refine zdK rfl (by simp only[go_sem]<;>rfl) (by simp only[go_sem]<;>rfl) (Qd _) ?_;rw[show(if(0:Int)>vi then(0:Int)else vi)=(v:Int) by split<;>omega];simp only[go_sem];refine zvM 6 (cs:=[.t (.seq (some true) []),.t (.lit (.bool false)),.t (.seq (some true) [])]) p1 (by decide) rfl ?_ (by simp only[go_sem]<;>rfl) ?_ ?_
 .exact Q2.2 ⟨zms,Q2.2 ⟨zqt,Q2.2 ⟨trivial,fun x hx=>by cases hx⟩⟩⟩
 .exact zuB
 .have b1:Bd 1 1 (Z7 v):=⟨Qd _,(fun m hm=>by obtain rfl:=Qr.1 hm;exact⟨by show v<_;omega,zap (by omega)⟩),by show lN 0<=1;rw[ZI];omega⟩
  have b2:Bd 1 2 (scF (Z7 v) 1):=by
   have:=zhH b1 1;have h1:lN 1<=1:=zap (by omega);exact⟨this.1,fun m hm=>⟨(this.2.1 m hm).1,by have:=(this.2.1 m hm).2;omega⟩,by have:=this.2.2;omega⟩
  have b3:=zlI (a:=([],0)) (N:=0) (L:=0) ⟨Qd _,(fun m hm=>by cases hm),by show lN 0<=0;rw[ZI];omega⟩ b2;have w3:WF (QP ([],0) (scF (Z7 v) 1)):=zgn trivial (zbC wv 1);have lq:=zl9 q.1 q.2.1 q.2.2;unfold qQ at hF;generalize QP ([],0) (scF (Z7 v) 1)=f1 at *
  generalize qv q.1 q.2.1 q.2.2=r at *
  have lfl:lN r.floor<=2000000000:=by have:=znL r;have:=zaD r;omega
  have p2:=zyP f1 r.floor (N:=1) (L:=2000000000) (by decide) (by decide) (by decide) w3 ⟨by have:=b3.1;omega,(fun m hm=>by have:=b3.2.1 m hm;exact⟨this.1,by omega⟩),by have:=b3.2.2;omega⟩ lfl;have bc:Bd 0 2000000000 (Ze r.floor):=⟨Qd _,(fun m hm=>by cases hm),lfl⟩
  have bF:=zlI b3 (zhH bc (-1));have wF:WF (QP f1 (scF (Ze r.floor) (-1))):=zgn w3 (zbC (show WF (Ze r.floor)from trivial) (-1));have X6:lN (-1)<=1:=zap (by omega);rw[<-hF]at p2 bF wF;have p3:=zwA F (by decide) (by omega) (by omega) wF bF;simp only[go_sem];refine Q3 o1 rfl ?_;simp only[go_sem];refine zww 6 p2 (by decide) rfl (Q2.2 ⟨zms,Q2.2 ⟨zqt,fun x hx=>by cases hx⟩⟩) (by simp only[go_sem]<;>rfl) ?_;simp only[go_sem];refine Q4 0 rfl ?_;simp only[go_sem];((repeat(refine Q4 0 rfl ?_;simp only[go_sem]));refine Q3 (p3) rfl ?_;simp only[go_sem];(repeat(refine Q4 0 rfl ?_;simp only[go_sem])));exact zaW (Zt .t .t .t) (Zt .t .t .t)
end Go.Proofs.YtlgjjcmljmjenaaGreat
