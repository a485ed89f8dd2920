/- At every input the call answers true and leaves its arguments as they were; no conditions. -/
import Derived.Test.YtlgjjcmljmjenaaGreatAi
set_option linter.unusedSimpArgs false
set_option linter.unusedVariables false
set_option maxRecDepth 100000
namespace Go.Abs
def zy6(P:Program)(rs:List ResultVar)(X:QE)(r:AV)(e:Exit)(σ:St):Prop:=∃ σ',GStep σ σ'/\zhU P rs X r e σ'
variable {P:Program}
theorem zmM(hm:P.follows .mixedOrders=true){f:FuncId}{fn:Func}{c:Code}{k:Nat}{rs:List ResultVar}{args:List TV}{X:QE}{r:AV}(Xd:∀ (as:Array Value) w,(callFunc f as).run P w = .ok (.enter f as) w)(hf:P.funcs[f]? = some fn)
  (hb:fn.body=some c) (hn:fn.ntmps=k) (Ug:fn.results=rs.toArray) (hl:args.length<=k) (XO:k<=PIN) (Xo:∀ b cs,X b=some cs->∀ c∈cs,inC X c) (hr:inA X r)
  (h:wpA P c (zy6 P rs X r) (zaZ k (args.map emb) noH)):zbW P f args X r:=by
 subst hn;have e:fn.results.toList=rs:=by rw[Ug]
 subst e;intro H H' φ Xs YE X5 XJ;refine⟨Xd,fun ρ ok w vs hH hv=>?_⟩;have Vn:zaI w ok noρ (args.map emb) vs:=by
  refine⟨hv.1,fun i hi Y6=>?_⟩;have:=hv.2 i hi Y6;simp only[Qq]at this ⊢;exact zex this _ rfl
 refine calls_of_wp hf hb (Code.wp_mono ?_ (zcu hm c _ _ noρ ok _ w (zdl ⟨fun b cs hb=>(by cases hb),fun _ _=>rfl,fun _ _ _ h=>(by cases h),fun n hn=>⟨(hH.okR n hn).1,fun _ h=>(by cases h)⟩⟩ Vn (by rw[Vn.1];simpa using hl) XO) h));rintro e' a w' ⟨σ0,ρ0,ok0,⟨σ,YM,he,YW,Vi,hX⟩,s0,g0⟩;obtain⟨ρ1,ok1,s,g1⟩:=YM ρ0 ok0 a w' s0;have g:=g0.trans g1;obtain⟨v,r1,r2⟩:=zc7 s YW;rw[Vi]at r2;have XR:∀ b c,ρ1 b=some c->w.heap.size<=c:=fun b c hb=>by
  rcases g.img b c hb with⟨b',h1⟩|h1
  .cases h1
  .exact h1
 have Y8:∀ n,n<w.heap.size->w'.heap[n]? = w.heap[n]?:=fun n hn=>g.same n hn (fun b e=>by cases e)
 have himgρ:∀ x n,ρ x=some n->n<w.heap.size:=fun x n hx=>Yb (σ:=⟨0,fun _=>.junk,H⟩) hH hx
 have hk:zah ok w w':=fun n hn=>Y8 n (hH.okR n hn).1
 have Ve:∀ b c,X b≠none->ρ1 b=some c->zay X φ ρ1 ρ (φ b)=some c:=fun b c hb hc=>by rw[zho YE hb];exact hc
 have Xn:∀ x y,ρ x=some y->zay X φ ρ1 ρ x=some y:=fun x y hx=>by
  rw[zfh (fun b hb e=>?_)]
  .exact hx
  .have:=hH.dom _ (Xs b hb).1
   rw[e,hx]at this;cases this
 have main:∃ v' ρ'' ok'',Ending.returned v = .returned v'/\RA w' ok'' ρ'' (rnA φ r) v'/\HR ρ'' ok'' H' w'/\Goes ρ ok w ρ'' ok'' w'/\∀ b c,ρ b=some c->ρ'' b=some c:=by
  refine⟨v,zay X φ ρ1 ρ,ok1,rfl,r2.rnX Ve hr,⟨fun x cs hx=>?_,fun x hx=>?_,fun x y n hx hy=>?_,fun n hn=>⟨(s.okR n hn).1,fun x hx=>?_⟩⟩,⟨g.size,fun n hn _=>Y8 n hn,g.shape,fun x n hx=>?_,g.up,fun n hn=>?_,fun x hx=>?_,g.env⟩,Xn⟩
  .by_cases Uh:∃ b,X b≠none/\φ b=x
   .obtain⟨b,hb,rfl⟩:=Uh
    obtain⟨cs0,Xf⟩:=wbE.1 hb;rw[X5 b cs0 Xf]at hx;cases hx
    obtain⟨c,arr,el,h1,h2,h3,h4⟩:=s.heap b cs0 (hX b cs0 Xf);refine⟨c,arr,el,Ve b c hb h1,h2,by simpa using h3,fun j hj Y2=>?_⟩;simp only[Qm]at hj;simp only[Qq];exact(h4 j hj Y2).rnX Ve (Xo b cs0 Xf _ (Qf hj))
   .rw[XJ x fun b h1 h2=>Uh ⟨b,h1,h2⟩]at hx
    obtain⟨cx,ax,ex,q1,q2,q3,q4⟩:=hH.heap x cs hx;exact⟨cx,ax,ex,Xn _ _ q1,by rw[Y8 cx (himgρ _ _ q1)];exact q2,q3,fun j hj Y2=>(q4 j hj Y2).mono hk g.up g.shape Xn⟩
  .rcases hw:zay X φ ρ1 ρ x with _|n
   .rfl
   .rcases zaa YE hw with⟨b,hb,rfl,_⟩|⟨h1,h2⟩
    .obtain⟨cs0,Xf⟩:=wbE.1 hb
     rw[X5 b cs0 Xf]at hx;cases hx
    .rw[XJ x h1]at hx
     rw[hH.dom x hx]at h2;cases h2
  .rcases zaa YE hx with⟨b,hb,rfl,h1⟩|⟨_,h1⟩
   .rcases zaa YE hy with⟨b',hb',rfl,h2⟩|⟨_,h2⟩
    .rw[s.inj b b' n h1 h2]
    .have:=XR _ _ h1;have:=himgρ _ _ h2;omega
   .rcases zaa YE hy with⟨b',hb',rfl,h2⟩|⟨_,h2⟩
    .have:=XR _ _ h2;have:=himgρ _ _ h1;omega
    .exact hH.inj x y n h1 h2
  .rcases zaa YE hx with⟨b,hb,rfl,h1⟩|⟨_,h1⟩
   .exact(s.okR n hn).2 b h1
   .rcases g.down n hn with k|⟨b',k⟩|k
    .exact(hH.okR n k).2 x h1
    .cases k
    .have:=himgρ _ _ h1;omega
  .rcases zaa YE hx with⟨b,hb,rfl,h1⟩|⟨_,h1⟩
   .exact .inr (XR _ _ h1)
   .exact .inl ⟨x,h1⟩
  .rcases g.down n hn with k|⟨b',k⟩|k
   .exact .inl k
   .cases k
   .exact .inr (.inr k)
  .left
   exact zfh fun b hb e=>by have:=(Xs b hb).2;omega
 have XX:a.defers=[]/\∃ v,(results fn a.tmps).run P w' = .ok v w'/\∃ v' ρ'' ok'',Ending.returned v = .returned v'/\RA w' ok'' ρ'' (rnA φ r) v'/\HR ρ'' ok'' H' w'/\Goes ρ ok w ρ'' ok'' w'/\∀ b c,ρ b=some c->ρ'' b=some c :=
  ⟨s.defers,v,r1,main⟩
 rcases he with rfl|rfl<;>exact XX
@[go_sem] theorem zC4{θ:Nat->Nat}{b:Bool}:thA θ (QO b)=QO b:=rfl
@[go_sem] theorem zC5{θ:Nat->Nat}{k:IntKind}{n:Int}:thA θ (litI k n)=litI k n:=rfl
@[go_sem] theorem zDY{θ:Nat->Nat}:thA θ (.tup []) = .tup []:=rfl
end Go.Abs
namespace Go.Abs
def zzm(P:Program)(rs:List ResultVar)(r:AV)(X':QE)(e:Exit)(σ:St):Prop:=∃ σ',GStep σ σ'/\zh2 P rs r X' e σ'
theorem zrQ{P:Program}(hm:P.follows .mixedOrders=true){f:FuncId}{fn:Func}{c:Code}{n:Nat}{rs:List ResultVar}{args:List AV}{r:AV}{X X':QE}(Xd:∀ (as:Array Value) w,(callFunc f as).run P w = .ok (.enter f as) w)(hf:P.funcs[f]? = some fn)
  (hb:fn.body=some c) (hn:fn.ntmps=n) (Ug:fn.results=rs.toArray) (hl:args.length<=n) (XO:n<=PIN)
  (Vv:∀ b,b<PIN->X' b=none) (Vx:∀ b,X' b=none↔X b=none) (Xo:∀ b cs,X' b=some cs->∀ c∈cs,inC X' c) (hr:inA X' r)
  (h:wpA P c (zzm P rs r X') (zaZ n args X)):Ze P f args X r X':=by
 subst hn;have e:fn.results.toList=rs:=by rw[Ug]
 subst e;refine⟨Xd,fun ρ ok w vs Uy hv=>calls_of_wp hf hb (Code.wp_mono ?_ (zcu hm c _ _ ρ ok _ w (zdl Uy hv (by rw[hv.1];exact hl) XO) h))⟩;rintro e a w' ⟨σ0,ρ0,ok0,⟨σ,YM,he,YW,Vi,hX⟩,s0,g0⟩;obtain⟨ρ',ok',s,g1⟩:=YM ρ0 ok0 a w' s0;have g:=g0.trans g1;obtain⟨v,r1,r2⟩:=zc7 s YW;rw[Vi]at r2
 let ρ2:Nat->Option Nat:=fun b=>if PIN<=b then ρ' b else none
 have hρ2:∀ b c,ρ2 b=some c->PIN<=b/\ρ' b=some c:=fun b c hc=>by
  simp only[ρ2]at hc;split at hc
  .exact⟨‹_›,hc⟩
  .cases hc
 have Vk:∀ b,X' b≠none->PIN<=b:=fun b hb=>by
  rcases wau b PIN with h|h
  .exact Qn (Vv b h) hb
  .exact h
 have Wa:∀ b c,X' b≠none->ρ' (thI (fun k=>PIN+k) b)=some c->ρ2 b=some c:=fun b c hb hc=>by
  have hp:=Vk b hb;have:thI (fun k=>PIN+k) b=b:=by show PIN+(b-PIN)=b;omega
  rw[this]at hc;simp only[ρ2,hp,if_true];exact hc
 have Jt:∀ c:C,inC X' c->thC (fun k=>PIN+k) c=c:=fun c hc=>by
  have VX:∀ b,X' b≠none->thI (fun k=>PIN+k) b=b:=fun b hb=>by have:=Vk b hb;show PIN+(b-PIN)=b;omega
  cases c with
  |t x=>rfl
  |ptr b o=>show C.ptr _ o=_;rw[VX b hc]
  |vec b s o n=>show C.vec _ s o n=_;rw[VX b hc]
  |fn f caps =>
   show C.fn f _=_;congr 1;rw[way (g:=id) fun p hp=>by rw[VX p.1 (hc p hp)];rfl,wb4]
 have NV:thA (fun k=>PIN+k) r=r:=zmh Jt r hr;have Xn:∀ b c,ρ b=some c->ρ2 b=some c:=fun b c hc=>by
  have Lu:X b≠none:=fun e=>by rw[Uy.dom b e]at hc;cases hc
  have hb':X' b≠none:=fun e=>Lu ((Vx b).1 e)
  have hp:=Vk b hb';obtain⟨cs,YN⟩:=wbE.1 hb';obtain⟨c',_,_,h1,_⟩:=s.heap b cs (by rw[hX b hp];exact YN);rcases g.pin b hp with h2|h2
  .simp only[ρ2,hp,if_true];rw[h2];exact hc
  .rw[h2]at h1;cases h1
 have VB:∀ n,zaJ ok' (fun b=>if PIN<=b then none else ρ' b) n->n<w'.heap.size/\∀ b,ρ2 b≠some n:=fun n hn=>by
  rcases hn with hn|⟨b,hb⟩
  .exact⟨(s.okR n hn).1,fun b hb=>(s.okR n hn).2 b (hρ2 b n hb).2⟩
  .have WY:¬PIN<=b/\ρ' b=some n:=by
    by_cases hp:PIN<=b
    .simp only[hp,if_true]at hb;cases hb
    .simp only[hp,if_false]at hb;exact⟨hp,hb⟩
   exact⟨Yb s.toHR WY.2,fun b' hb'=>by
    obtain⟨k1,k2⟩:=hρ2 b' n hb';have:=s.inj _ _ n WY.2 k2;omega⟩
 have Vg:∀ n,ok' n->zaJ ok' (fun b=>if PIN<=b then none else ρ' b) n:=fun n hn=>.inl hn
 have Y9:a.defers=[]/\∃ v,(results fn a.tmps).run P w' = .ok v w'/\∃ v' ρ'' ok'',Ending.returned v = .returned v'/\RA w' ok'' ρ'' r v'/\HR ρ'' ok'' X' w'/\Goes ρ ok w ρ'' ok'' w'/\∀ b c,ρ b=some c->ρ'' b=some c:=by
  refine⟨s.defers,v,r1,v,ρ2,zaJ ok' (fun b=>if PIN<=b then none else ρ' b),rfl,?_,⟨fun b cs hb=>?_,fun b hb=>?_,fun b b' c hb hb'=>s.inj b b' c (hρ2 b c hb).2 (hρ2 b' c hb').2,VB⟩,⟨g.size,g.same,g.shape,fun b n hb=>g.img b n (hρ2 b n hb).2,fun n hn=>.inl (g.up n hn),fun n hn=>?_,fun b hp=>?_,g.env⟩,Xn⟩
  .have h1:RA w' ok' ρ' (thA (fun k=>PIN+k) r) v:=by rw[NV];exact r2
   exact(h1.unren (X:=X') Wa hr).mono (fun _ _=>rfl) Vg (fun _ _ _ h=>h) fun _ _ h=>h
  .have hp:=Vk b (by rw[hb];simp)
   obtain⟨c,arr,el,h1,h2,h3,h4⟩:=s.heap b cs (by rw[hX b hp];exact hb);refine⟨c,arr,el,by simp only[ρ2,hp,if_true];exact h1,h2,h3,fun j hj Y2=>?_⟩;have Xw:=Xo b cs hb _ (Qf hj);have h5:RC w' ok' ρ' (thC (fun k=>PIN+k) cs[j]) arr[j]:=by rw[Jt _ Xw];exact h4 j hj Y2
   exact(h5.unren (X:=X') Wa Xw).mono (fun _ _=>rfl) Vg (fun _ _ _ h=>h) fun _ _ h=>h
  .by_cases hp:PIN<=b
   .have:=s.dom b (by rw[hX b hp];exact hb)
    simp only[ρ2,hp,if_true];exact this
   .simp only[ρ2,hp,if_false]
  .rcases hn with hn|⟨b,hb⟩
   .rcases g.down n hn with h1|⟨b',h1⟩|h1
    .exact .inl h1
    .exact .inr (.inl ⟨b',h1⟩)
    .exact .inr (.inr h1)
   .have WY:¬PIN<=b/\ρ' b=some n:=by
     by_cases hp:PIN<=b
     .simp only[hp,if_true]at hb;cases hb
     .simp only[hp,if_false]at hb;exact⟨hp,hb⟩
    rcases g.img b n WY.2 with⟨b',h1⟩|h1
    .exact .inr (.inl ⟨b',h1⟩)
    .exact .inr (.inr h1)
  .have h1:=g.pin b hp
   simp only[ρ2,hp,if_true];exact h1
 rcases he with rfl|rfl<;>exact Y9
theorem zif{P:Program}{o:Oper}{σ:St}{t:TypeId}{x y:Operand}(ho:o.op = .indexAddr t x y)(h1:tok P t=true)(h2:isSliceD (tdesc P t)=true)(h3:tok P (telem P t)=true)
  (h4:zd2 (tsize P (telem P t)) (ev σ.s x) (idx (ev σ.s y))) {n:Nat} (hn:(ev σ.s x).lenOf=some n) (h5:zaE (ev σ.s y) n) :
  zhD P o σ (zcC (tsize P (telem P t)) (ev σ.s x) (idx (ev σ.s y))):=by
 intro ρ ok a w h;obtain⟨k,hy,Y1⟩:=zgT (Zm h y) h5;have Y7:=Zm h x;generalize hi:idx (ev σ.s y)=i at *
 suffices hs:∃ c off cap,a.eval x = .slice (some ⟨c,off,none⟩) n cap/\RA w ok ρ (zcC (tsize P (telem P t)) (ev σ.s x) i) (.pointer (some ⟨c,off+i*tsize P (telem P t),none⟩)) by
  obtain⟨c,off,cap,e1,e2⟩:=hs;refine⟨_,fun w'=>?_,e2⟩;simp only[execOp,ho,e1,hy];refine Yx ?_;unfold Instr.indexAt;simp only[asIntOf,Sem.run_bind,Sem.run_pure,Result.andThen,ZE h1,zaM h2];rw[Qc (by omega)];rw[Sem.run_bind,zaB h3];simp[Result.andThen,zcK]
 generalize a.eval x=vx at *
 generalize ev σ.s x=ax at *
 unfold AV.lenOf at hn;split at hn
 .rename_i nl xs
  cases hn
  obtain⟨A,c,sz,blk,off,u,rfl,g2,g0,g3,g4,g5,g6,g7,g8⟩:=Y7.seq_inv2;have Km:xs≠[]:=by intro e;subst e;simp at Y1
  obtain⟨k1,k2⟩:=g6 Km;have WB:sz=tsize P (telem P t):=by
   cases xs with
   |nil=>exact Qn rfl Km
   |cons y ys=>rw[<-g5 y (by simp),<-h4 y (by simp)]
  subst WB;subst k1;refine⟨blk,off,c,rfl,?_⟩;have e:xs.getD i []=xs[i]:=by simp[Y1]
  simp only[zcC,e];refine .iptr (u:=u i) k2 (fun j hj=>?_) (fun j hj=>g8 i Y1 j hj);rw[wbn];exact g7 i Y1 j hj
 .rename_i b s off m
  cases hn
  obtain⟨c,cap,n0,k1,rfl,k2,k3,k4⟩:=Y7.vec_inv;have hs:s=tsize P (telem P t):=h4;subst hs;exact⟨c,off,cap,rfl,.one (.ptr k1)⟩
 .exact h4.elim
 .cases hn
end Go.Abs
