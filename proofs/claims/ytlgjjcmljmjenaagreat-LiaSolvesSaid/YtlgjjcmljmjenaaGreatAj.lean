/- At every input the call answers true and leaves its arguments as they were; no conditions. -/
import Derived.Test.YtlgjjcmljmjenaaGreatAi
set_option linter.unusedSimpArgs false
set_option linter.unusedVariables false
set_option maxRecDepth 100000
namespace Go.Abs
def zzd(P:Program)(rs:List ResultVar)(X:QD)(r:AV)(e:Exit)(σ:St):Prop:=∃ σ',GStep σ σ'/\zhL P rs X r e σ'
variable {P:Program}
theorem zmA(hm:P.follows .mixedOrders=true){f:FuncId}{fn:Func}{c:Code}{k:Nat}{rs:List ResultVar}{args:List TV}{X:QD}{r:AV}(Xb:∀ (as:Array Value) w,(callFunc f as).run P w = .ok (.enter f as) w)(hf:P.funcs[f]? = some fn)
  (hb:fn.body=some c) (hn:fn.ntmps=k) (UK:fn.results=rs.toArray) (hl:args.length<=k) (Vt:k<=PIN) (YW:∀ b cs,X b=some cs->∀ c∈cs,inC X c) (hr:inA X r)
  (h:wpA P c (zzd P rs X r) (zbb k (args.map emb) noH)):zbX P f args X r:=by
 subst hn;have e:fn.results.toList=rs:=by rw[UK]
 subst e;intro H H' φ Xq Y8 X5 XF;refine⟨Xb,fun ρ ok w vs hH hv=>?_⟩;have Va:zaH w ok noρ (args.map emb) vs:=by
  refine⟨hv.1,fun i hi Y6=>?_⟩;have:=hv.2 i hi Y6;simp only[Qq]at this ⊢;exact zew this _ rfl
 refine calls_of_wp hf hb (Code.wp_mono ?_ (zdD hm c _ _ noρ ok _ w (zdP ⟨fun b cs hb=>(by cases hb),fun _ _=>rfl,fun _ _ _ h=>(by cases h),fun n hn=>⟨(hH.okR n hn).1,fun _ h=>(by cases h)⟩⟩ Va (by rw[Va.1];simpa using hl) Vt) h));rintro e' a w' ⟨σ0,ρ0,ok0,⟨σ,YN,he,YX,Ve,hX⟩,s0,g0⟩;obtain⟨ρ1,ok1,s,g1⟩:=YN ρ0 ok0 a w' s0;have g:=g0.trans g1;obtain⟨v,r1,r2⟩:=zdv s YX;rw[Ve]at r2;have XM:∀ b c,ρ1 b=some c->w.heap.size<=c:=fun b c hb=>by
  rcases g.img b c hb with⟨b',h1⟩|h1
  .cases h1
  .exact h1
 have Y4:∀ n,n<w.heap.size->w'.heap[n]? = w.heap[n]?:=fun n hn=>g.same n hn (fun b e=>by cases e)
 have himgρ:∀ x n,ρ x=some n->n<w.heap.size:=fun x n hx=>Yb (σ:=⟨0,fun _=>.junk,H⟩) hH hx
 have hk:zai ok w w':=fun n hn=>Y4 n (hH.okR n hn).1
 have XZ:∀ b c,X b≠none->ρ1 b=some c->zax X φ ρ1 ρ (φ b)=some c:=fun b c hb hc=>by rw[zhf Y8 hb];exact hc
 have Xk:∀ x y,ρ x=some y->zax X φ ρ1 ρ x=some y:=fun x y hx=>by
  rw[zfa (fun b hb e=>?_)]
  .exact hx
  .have:=hH.dom _ (Xq b hb).1
   rw[e,hx]at this;cases this
 have main:∃ v' ρ'' ok'',Ending.returned v = .returned v'/\RA w' ok'' ρ'' (rnA φ r) v'/\HR ρ'' ok'' H' w'/\Goes ρ ok w ρ'' ok'' w'/\∀ b c,ρ b=some c->ρ'' b=some c:=by
  refine⟨v,zax X φ ρ1 ρ,ok1,rfl,r2.rnX XZ hr,⟨fun x cs hx=>?_,fun x hx=>?_,fun x y n hx hy=>?_,fun n hn=>⟨(s.okR n hn).1,fun x hx=>?_⟩⟩,⟨g.size,fun n hn _=>Y4 n hn,g.shape,fun x n hx=>?_,g.up,fun n hn=>?_,fun x hx=>?_,g.env⟩,Xk⟩
  .by_cases Ud:∃ b,X b≠none/\φ b=x
   .obtain⟨b,hb,rfl⟩:=Ud
    obtain⟨cs0,Xa⟩:=wby.1 hb;rw[X5 b cs0 Xa]at hx;cases hx
    obtain⟨c,arr,el,h1,h2,h3,h4⟩:=s.heap b cs0 (hX b cs0 Xa);refine⟨c,arr,el,XZ b c hb h1,h2,by simpa using h3,fun j hj Yz=>?_⟩;simp only[Qm]at hj;simp only[Qq];exact(h4 j hj Yz).rnX XZ (YW b cs0 Xa _ (Qh hj))
   .rw[XF x fun b h1 h2=>Ud ⟨b,h1,h2⟩]at hx
    obtain⟨cx,ax,ex,q1,q2,q3,q4⟩:=hH.heap x cs hx;exact⟨cx,ax,ex,Xk _ _ q1,by rw[Y4 cx (himgρ _ _ q1)];exact q2,q3,fun j hj Yz=>(q4 j hj Yz).mono hk g.up g.shape Xk⟩
  .rcases hw:zax X φ ρ1 ρ x with _|n
   .rfl
   .rcases zaa Y8 hw with⟨b,hb,rfl,_⟩|⟨h1,h2⟩
    .obtain⟨cs0,Xa⟩:=wby.1 hb
     rw[X5 b cs0 Xa]at hx;cases hx
    .rw[XF x h1]at hx
     rw[hH.dom x hx]at h2;cases h2
  .rcases zaa Y8 hx with⟨b,hb,rfl,h1⟩|⟨_,h1⟩
   .rcases zaa Y8 hy with⟨b',hb',rfl,h2⟩|⟨_,h2⟩
    .rw[s.inj b b' n h1 h2]
    .have:=XM _ _ h1;have:=himgρ _ _ h2;omega
   .rcases zaa Y8 hy with⟨b',hb',rfl,h2⟩|⟨_,h2⟩
    .have:=XM _ _ h2;have:=himgρ _ _ h1;omega
    .exact hH.inj x y n h1 h2
  .rcases zaa Y8 hx with⟨b,hb,rfl,h1⟩|⟨_,h1⟩
   .exact(s.okR n hn).2 b h1
   .rcases g.down n hn with k|⟨b',k⟩|k
    .exact(hH.okR n k).2 x h1
    .cases k
    .have:=himgρ _ _ h1;omega
  .rcases zaa Y8 hx with⟨b,hb,rfl,h1⟩|⟨_,h1⟩
   .exact .inr (XM _ _ h1)
   .exact .inl ⟨x,h1⟩
  .rcases g.down n hn with k|⟨b',k⟩|k
   .exact .inl k
   .cases k
   .exact .inr (.inr k)
  .left
   exact zfa fun b hb e=>by have:=(Xq b hb).2;omega
 have XU:a.defers=[]/\∃ v,(results fn a.tmps).run P w' = .ok v w'/\∃ v' ρ'' ok'',Ending.returned v = .returned v'/\RA w' ok'' ρ'' (rnA φ r) v'/\HR ρ'' ok'' H' w'/\Goes ρ ok w ρ'' ok'' w'/\∀ b c,ρ b=some c->ρ'' b=some c :=
  ⟨s.defers,v,r1,main⟩
 rcases he with rfl|rfl<;>exact XU
@[go_sem] theorem zC7{θ:Nat->Nat}{b:Bool}:thA θ (QO b)=QO b:=rfl
@[go_sem] theorem zC8{θ:Nat->Nat}{k:IntKind}{n:Int}:thA θ (litI k n)=litI k n:=rfl
@[go_sem] theorem zD0{θ:Nat->Nat}:thA θ (.tup []) = .tup []:=rfl
end Go.Abs
namespace Go.Abs
def zzr(P:Program)(rs:List ResultVar)(r:AV)(X':QD)(e:Exit)(σ:St):Prop:=∃ σ',GStep σ σ'/\zhU P rs r X' e σ'
theorem zrU{P:Program}(hm:P.follows .mixedOrders=true){f:FuncId}{fn:Func}{c:Code}{n:Nat}{rs:List ResultVar}{args:List AV}{r:AV}{X X':QD}(Xb:∀ (as:Array Value) w,(callFunc f as).run P w = .ok (.enter f as) w)(hf:P.funcs[f]? = some fn)
  (hb:fn.body=some c) (hn:fn.ntmps=n) (UK:fn.results=rs.toArray) (hl:args.length<=n) (Vt:n<=PIN)
  (Vu:∀ b,b<PIN->X' b=none) (Vw:∀ b,X' b=none↔X b=none) (YW:∀ b cs,X' b=some cs->∀ c∈cs,inC X' c) (hr:inA X' r)
  (h:wpA P c (zzr P rs r X') (zbb n args X)):Zf P f args X r X':=by
 subst hn;have e:fn.results.toList=rs:=by rw[UK]
 subst e;refine⟨Xb,fun ρ ok w vs Uq hv=>calls_of_wp hf hb (Code.wp_mono ?_ (zdD hm c _ _ ρ ok _ w (zdP Uq hv (by rw[hv.1];exact hl) Vt) h))⟩;rintro e a w' ⟨σ0,ρ0,ok0,⟨σ,YN,he,YX,Ve,hX⟩,s0,g0⟩;obtain⟨ρ',ok',s,g1⟩:=YN ρ0 ok0 a w' s0;have g:=g0.trans g1;obtain⟨v,r1,r2⟩:=zdv s YX;rw[Ve]at r2
 let ρ2:Nat->Option Nat:=fun b=>if PIN<=b then ρ' b else none
 have hρ2:∀ b c,ρ2 b=some c->PIN<=b/\ρ' b=some c:=fun b c hc=>by
  simp only[ρ2]at hc;split at hc
  .exact⟨‹_›,hc⟩
  .cases hc
 have Vh:∀ b,X' b≠none->PIN<=b:=fun b hb=>by
  rcases was b PIN with h|h
  .exact Qo (Vu b h) hb
  .exact h
 have US:∀ b c,X' b≠none->ρ' (thI (fun k=>PIN+k) b)=some c->ρ2 b=some c:=fun b c hb hc=>by
  have hp:=Vh b hb;have:thI (fun k=>PIN+k) b=b:=by show PIN+(b-PIN)=b;omega
  rw[this]at hc;simp only[ρ2,hp,if_true];exact hc
 have Jm:∀ c:C,inC X' c->thC (fun k=>PIN+k) c=c:=fun c hc=>by
  have VT:∀ b,X' b≠none->thI (fun k=>PIN+k) b=b:=fun b hb=>by have:=Vh b hb;show PIN+(b-PIN)=b;omega
  cases c with
  |t x=>rfl
  |ptr b o=>show C.ptr _ o=_;rw[VT b hc]
  |vec b s o n=>show C.vec _ s o n=_;rw[VT b hc]
  |fn f caps =>
   show C.fn f _=_;congr 1;rw[wau (g:=id) fun p hp=>by rw[VT p.1 (hc p hp)];rfl,wb0]
 have NJ:thA (fun k=>PIN+k) r=r:=zl8 Jm r hr;have Xk:∀ b c,ρ b=some c->ρ2 b=some c:=fun b c hc=>by
  have Lh:X b≠none:=fun e=>by rw[Uq.dom b e]at hc;cases hc
  have hb':X' b≠none:=fun e=>Lh ((Vw b).1 e)
  have hp:=Vh b hb';obtain⟨cs,YL⟩:=wby.1 hb';obtain⟨c',_,_,h1,_⟩:=s.heap b cs (by rw[hX b hp];exact YL);rcases g.pin b hp with h2|h2
  .simp only[ρ2,hp,if_true];rw[h2];exact hc
  .rw[h2]at h1;cases h1
 have Ur:∀ n,zbe ok' (fun b=>if PIN<=b then none else ρ' b) n->n<w'.heap.size/\∀ b,ρ2 b≠some n:=fun n hn=>by
  rcases hn with hn|⟨b,hb⟩
  .exact⟨(s.okR n hn).1,fun b hb=>(s.okR n hn).2 b (hρ2 b n hb).2⟩
  .have WK:¬PIN<=b/\ρ' b=some n:=by
    by_cases hp:PIN<=b
    .simp only[hp,if_true]at hb;cases hb
    .simp only[hp,if_false]at hb;exact⟨hp,hb⟩
   exact⟨Yb s.toHR WK.2,fun b' hb'=>by
    obtain⟨k1,k2⟩:=hρ2 b' n hb';have:=s.inj _ _ n WK.2 k2;omega⟩
 have VF:∀ n,ok' n->zbe ok' (fun b=>if PIN<=b then none else ρ' b) n:=fun n hn=>.inl hn
 have Y5:a.defers=[]/\∃ v,(results fn a.tmps).run P w' = .ok v w'/\∃ v' ρ'' ok'',Ending.returned v = .returned v'/\RA w' ok'' ρ'' r v'/\HR ρ'' ok'' X' w'/\Goes ρ ok w ρ'' ok'' w'/\∀ b c,ρ b=some c->ρ'' b=some c:=by
  refine⟨s.defers,v,r1,v,ρ2,zbe ok' (fun b=>if PIN<=b then none else ρ' b),rfl,?_,⟨fun b cs hb=>?_,fun b hb=>?_,fun b b' c hb hb'=>s.inj b b' c (hρ2 b c hb).2 (hρ2 b' c hb').2,Ur⟩,⟨g.size,g.same,g.shape,fun b n hb=>g.img b n (hρ2 b n hb).2,fun n hn=>.inl (g.up n hn),fun n hn=>?_,fun b hp=>?_,g.env⟩,Xk⟩
  .have h1:RA w' ok' ρ' (thA (fun k=>PIN+k) r) v:=by rw[NJ];exact r2
   exact(h1.unren (X:=X') US hr).mono (fun _ _=>rfl) VF (fun _ _ _ h=>h) fun _ _ h=>h
  .have hp:=Vh b (by rw[hb];simp)
   obtain⟨c,arr,el,h1,h2,h3,h4⟩:=s.heap b cs (by rw[hX b hp];exact hb);refine⟨c,arr,el,by simp only[ρ2,hp,if_true];exact h1,h2,h3,fun j hj Yz=>?_⟩;have Xw:=YW b cs hb _ (Qh hj);have h5:RC w' ok' ρ' (thC (fun k=>PIN+k) cs[j]) arr[j]:=by rw[Jm _ Xw];exact h4 j hj Yz
   exact(h5.unren (X:=X') US Xw).mono (fun _ _=>rfl) VF (fun _ _ _ h=>h) fun _ _ h=>h
  .by_cases hp:PIN<=b
   .have:=s.dom b (by rw[hX b hp];exact hb)
    simp only[ρ2,hp,if_true];exact this
   .simp only[ρ2,hp,if_false]
  .rcases hn with hn|⟨b,hb⟩
   .rcases g.down n hn with h1|⟨b',h1⟩|h1
    .exact .inl h1
    .exact .inr (.inl ⟨b',h1⟩)
    .exact .inr (.inr h1)
   .have WK:¬PIN<=b/\ρ' b=some n:=by
     by_cases hp:PIN<=b
     .simp only[hp,if_true]at hb;cases hb
     .simp only[hp,if_false]at hb;exact⟨hp,hb⟩
    rcases g.img b n WK.2 with⟨b',h1⟩|h1
    .exact .inr (.inl ⟨b',h1⟩)
    .exact .inr (.inr h1)
  .have h1:=g.pin b hp
   simp only[ρ2,hp,if_true];exact h1
 rcases he with rfl|rfl<;>exact Y5
theorem zh7{P:Program}{o:Oper}{σ:St}{t:TypeId}{x y:Operand}(ho:o.op = .indexAddr t x y)(h1:tok P t=true)(h2:isSliceD (tdesc P t)=true)(h3:tok P (telem P t)=true)
  (h4:zdW (tsize P (telem P t)) (ev σ.s x) (idx (ev σ.s y))) {n:Nat} (hn:(ev σ.s x).lenOf=some n) (h5:zaC (ev σ.s y) n) :
  zht P o σ (zcA (tsize P (telem P t)) (ev σ.s x) (idx (ev σ.s y))):=by
 intro ρ ok a w h;obtain⟨k,hy,Yw⟩:=zgO (Zj h y) h5;have Y3:=Zj h x;generalize hi:idx (ev σ.s y)=i at *
 suffices hs:∃ c off cap,a.eval x = .slice (some ⟨c,off,none⟩) n cap/\RA w ok ρ (zcA (tsize P (telem P t)) (ev σ.s x) i) (.pointer (some ⟨c,off+i*tsize P (telem P t),none⟩)) by
  obtain⟨c,off,cap,e1,e2⟩:=hs;refine⟨_,fun w'=>?_,e2⟩;simp only[execOp,ho,e1,hy];refine Yu ?_;unfold Instr.indexAt;simp only[asIntOf,Sem.run_bind,Sem.run_pure,Result.andThen,ZE h1,zaK h2];rw[Qc (by omega)];rw[Sem.run_bind,zaz h3];simp[Result.andThen,zcG]
 generalize a.eval x=vx at *
 generalize ev σ.s x=ax at *
 unfold AV.lenOf at hn;split at hn
 .rename_i nl xs
  cases hn
  obtain⟨A,c,sz,blk,off,u,rfl,g2,g0,g3,g4,g5,g6,g7,g8⟩:=Y3.seq_inv2;have Ke:xs≠[]:=by intro e;subst e;simp at Yw
  obtain⟨k1,k2⟩:=g6 Ke;have Ws:sz=tsize P (telem P t):=by
   cases xs with
   |nil=>exact Qo rfl Ke
   |cons y ys=>rw[<-g5 y (by simp),<-h4 y (by simp)]
  subst Ws;subst k1;refine⟨blk,off,c,rfl,?_⟩;have e:xs.getD i []=xs[i]:=by simp[Yw]
  simp only[zcA,e];refine .iptr (u:=u i) k2 (fun j hj=>?_) (fun j hj=>g8 i Yw j hj);rw[wbg];exact g7 i Yw j hj
 .rename_i b s off m
  cases hn
  obtain⟨c,cap,n0,k1,rfl,k2,k3,k4⟩:=Y3.vec_inv;have hs:s=tsize P (telem P t):=h4;subst hs;exact⟨c,off,cap,rfl,.one (.ptr k1)⟩
 .exact h4.elim
 .cases hn
end Go.Abs
namespace Go.Abs
variable {P:Program}
end Go.Abs
