/- At every input the call answers true and leaves its arguments as they were; no conditions. -/
import Derived.Test.YtlgjjcmljmjenaaGreatAj
set_option linter.unusedSimpArgs false
set_option linter.unusedVariables false
set_option maxRecDepth 100000
namespace Go.Abs
def zia(b:Bool)(K:St->Prop)(σ:St):Prop:=if b=true then ∃ σ',GStep σ σ'/\K σ' else K σ
def wpS(P:Program):List Bool->Code->(Exit->St->Prop)->St->Prop
 |[],c,Q,σ=>wpA P c Q σ
 |b::ks,c,Q,σ=>match c with
  |.seq x y=>wpA P x (zcp (zia b (wpS P ks y Q)) Q) σ
  |c=>wpA P c Q σ
variable {P:Program}
@[go_sem] theorem zDX{c:Code}{Q:Exit->St->Prop}{σ:St}:wpS P [] c Q σ=wpA P c Q σ:=rfl
@[go_sem] theorem zBQ{ks:List Bool}{x y:Code}{Q:Exit->St->Prop}{σ:St}:wpS P (false::ks) (.seq x y) Q σ=wpA P x (zcp (wpS P ks y Q) Q) σ:=rfl
@[go_sem] theorem zC3{ks:List Bool}{x y:Code}{Q:Exit->St->Prop}{σ:St}:wpS P (true::ks) (.seq x y) Q σ=wpA P x (zcp (zia true (wpS P ks y Q)) Q) σ:=rfl
theorem pau{K:St->Prop}{σ:St}(σ':St)(h:GStep σ σ')(hK:K σ'):zia true K σ:=⟨σ',h,hK⟩
theorem zkH(hm:P.follows .mixedOrders=true):∀ (ks:List Bool) (c:Code) (Q:Exit->St->Prop) (σ:St) (ρ:Nat->Option Nat) (ok:Nat->Prop) (a:Act) (w:World),SR ρ ok σ a w->wpS P ks c Q σ->c.wp P (zcE ρ ok w Q) a w
 |[],c,Q,σ,ρ,ok,a,w,h,hr=>zcu hm c Q σ ρ ok a w h hr
 |b::ks,c,Q,σ,ρ,ok,a,w,h,hr=>by
  cases c with
  |seq x y =>
   have hr:wpA P x (zcp (zia b (wpS P ks y Q)) Q) σ:=hr;refine wp_seq (Code.wp_mono ?_ (zcu hm x _ σ ρ ok a w h hr));rintro e a' w' ⟨σ',ρ',ok',q,s,g⟩;cases e with
   |normal =>
    have q:zia b (wpS P ks y Q) σ':=q;cases b with
    |true =>
     obtain⟨σ2,YM,q⟩:=q;obtain⟨ρ2,ok2,s2,g2⟩:=YM ρ' ok' a' w' s;exact Code.wp_mono (zcE.trans (g.trans g2)) (zkH hm ks y Q σ2 ρ2 ok2 a' w' s2 q)
    |false=>exact Code.wp_mono (zcE.trans g) (zkH hm ks y Q σ' ρ' ok' a' w' s q)
   |_=>exact⟨σ',ρ',ok',q,s,g⟩
  |_=>exact zcu hm _ Q σ ρ ok a w h hr
theorem zrZ(ks:List Bool)(hm:P.follows .mixedOrders=true){f:FuncId}{fn:Func}{c:Code}{n:Nat}{rs:List ResultVar}{args:List TV}{r:TV}(Xd:∀ (as:Array Value) w,(callFunc f as).run P w = .ok (.enter f as) w)(hf:P.funcs[f]? = some fn)
  (hb:fn.body=some c) (hn:fn.ntmps=n) (Ug:fn.results=rs.toArray) (hl:args.length<=n) (XO:n<=PIN) (h:wpS P ks c (zc5 P rs r) (zaZ n (args.map emb) noH)):Q7 P f args r:=by
 subst hn;have e:fn.results.toList=rs:=by rw[Ug]
 subst e;refine⟨Xd,fun ok w vs YB hv=>calls_of_wp hf hb (Code.wp_mono ?_ (zkH hm ks c _ _ noρ ok _ w (zdl ⟨fun b cs hb=>(by cases hb),fun _ _=>rfl,fun _ _ _ h=>(by cases h),fun n hn=>⟨YB n hn,fun _ h=>(by cases h)⟩⟩ hv (by rw[hv.1];simpa using hl) XO) h))⟩;rintro e a w' ⟨σ,ρ',ok',⟨he,YW,Gd⟩,s,g⟩;obtain⟨v,r1,r2⟩:=zc7 s YW;have VB:∀ n,zaJ ok' ρ' n->n<w'.heap.size:=fun n hn=>by
  rcases hn with hn|⟨b,hb⟩
  .exact(s.okR n hn).1
  .exact Yb s.toHR hb
 have UD:Goes noρ ok w noρ (zaJ ok' ρ') w':=by
  refine⟨g.size,g.same,g.shape,fun b n hb=>(by cases hb),fun n hn=>.inl (g.up n hn),fun n hn=>?_,fun _ _=>.inl rfl,g.env⟩;rcases hn with hn|⟨b,hb⟩
  .exact g.down n hn
  .rcases g.img b n hb with⟨b',h1⟩|h1
   .cases h1
   .exact .inr (.inr h1)
 have Y9:a.defers=[]/\∃ v,(results fn a.tmps).run P w' = .ok v w'/\∃ v' ok',Ending.returned v = .returned v'/\RA w' ok' noρ (emb r) v'/\Goes noρ ok w noρ ok' w'/\∀ n,ok' n->n<w'.heap.size :=
  ⟨s.defers,v,r1,v,zaJ ok' ρ',rfl,Gd.sound s.toHR r2,UD,VB⟩
 rcases he with rfl|rfl<;>exact Y9
end Go.Abs
namespace Go.Abs
section
variable {X:Nat->Option (List T)} {ρ:Nat->Option Nat} {ok:Nat->Prop} {w:World} {σ:St} {a:Act}
def zfR(H:QE):List (Nat×List T)->Prop
 |[]=>True
 |(b,ts)::l=>H b=some (ts.map .t)/\zfR H l
theorem zfR.all{H:QE}:∀ {l:List (Nat×List T)},zfR H l->∀ p∈l,H p.1=some (p.2.map .t)
 |[],_,p,hp=>by cases hp
 |q::l,h,p,hp=>by
  rcases wad.1 hp with rfl|hp
  .exact h.1
  .exact zfR.all h.2 p hp
@[go_sem] theorem zCP{H:QE}:zfR H []=True:=rfl
@[go_sem] theorem zBF{H:QE}{b:Nat}{ts:List T}{l:List (Nat×List T)}:zfR H ((b,ts)::l)=(H b=some (ts.map .t)/\zfR H l):=rfl
end
inductive FzCs(H:QE):List C->List T->Prop where
 |nil:FzCs H [] []
 |cons {c:C} {x:T} {cs:List C} {xs:List T}:FzC H c x->FzCs H cs xs->FzCs H (c::cs) (x::xs)
theorem FzCs.get{H:QE}{cs:List C}{xs:List T}(h:FzCs H cs xs):xs.length=cs.length/\∀ j (hj:j<cs.length) (Y2:j<xs.length),FzC H cs[j] xs[j]:=by
 induction h with
 |nil=>exact⟨rfl,fun j hj=>by simp at hj⟩
 |cons h1 _ ih =>
  refine⟨by simp[ih.1],fun j hj Y2=>?_⟩;cases j with
  |zero=>exact h1
  |succ j=>exact ih.2 j (by simpa using hj) (by simpa using Y2)
theorem zjU{H:QE}{cs:List C}{xs:List T}(h:FzCs H cs xs):FzA H (.agg cs) (.agg xs):=.agg h.get.1 h.get.2
attribute [go_sem] Option.isSome_none
end Go.Abs
namespace Go.Abs
def zzt(P:Program)(o:Oper)(σ:St)(K:AV->St->Prop):Prop:=QV P 2 o σ K\/OpA P 2 o σ K
variable {P:Program}
theorem zsq{ρ:Nat->Option Nat}{ok:Nat->Prop}{σ:St}{a:Act}{w:World}{o:Oper}{K:AV->St->Prop}{Q:Exit->Act->World->Prop}(h:SR ρ ok σ a w)(hd:zaP σ.n o.dst=true)(hs:zzt P o σ K) :
  o.wp P a w (fun a' w'=>∃ x v τ ρ' ok',K x τ/\a'=a.put o.dst v/\RA w' ok' ρ' x v/\SR ρ' ok' τ a w'/\Goes ρ ok w ρ' ok' w'/\τ.n=σ.n) Q:=by
 rcases hs with hs|hs
 .exact zip h hd hs
 .obtain⟨r,σ',hn,h1,hK⟩:=hs
  obtain⟨v,w',ρ',ok',Xe,hr,Wi,hg⟩:=h1 ρ ok a w h;unfold Oper.wp;rw[Xe];exact⟨r,v,σ',ρ',ok',hK,rfl,hr,Wi,hg,hn⟩
end Go.Abs
namespace Go.Abs
def thL(L:Nat):Nat->Nat:=fun _=>L
def Yr(cs:List T):QE:=fun b=>if b=PIN then some (cs.map .t)else none
variable {P:Program}
def zhQ(P:Program)(f:FuncId)(args:List AV)(c0 c1:List T)(Y:QE)(r:AV):Prop :=
 ∀ (H H':QE) (L:Nat) (φ:Nat->Nat),H L=some (c0.map .t)->(∀ b,Y b≠none->H (φ b)=none/\φ b<PIN)->(∀ b b',Y b≠none->Y b'≠none->φ b=φ b'->b=b') ->
  H' L=some (c1.map .t)->(∀ b cs,Y b=some cs->H' (φ b)=some (cs.map (rnC φ)))->(∀ x,x≠L->(∀ b,Y b≠none->φ b≠x)->H' x=H x)->Ze P f (args.map (thA (thL L))) H (rnA φ r) H'
def zrg(P:Program)(rs:List ResultVar)(c1:List T)(Y:QE)(r:AV)(e:Exit)(σ:St):Prop :=
 (e = .normal\/e = .ret)/\(∀ x∈rs,zak P σ x)/\zb6 P rs σ=r/\σ.H PIN=some (c1.map .t)/\∀ b cs,Y b=some cs->σ.H b=some cs
theorem zfW(hm:P.follows .mixedOrders=true){f:FuncId}{fn:Func}{c:Code}{k:Nat}{rs:List ResultVar}{args:List AV}{c0 c1:List T}{Y:QE}{r:AV}(Xd:∀ (as:Array Value) w,(callFunc f as).run P w = .ok (.enter f as) w)(hf:P.funcs[f]? = some fn)
  (hb:fn.body=some c) (hn:fn.ntmps=k) (Ug:fn.results=rs.toArray) (hl:args.length<=k) (XO:k<=PIN) (YD:∀ x∈args,inA (Yr c0) x) (Vv:∀ b,Y b≠none->b<PIN) (Xo:∀ b cs,Y b=some cs->∀ c∈cs,inC Y c) (hr:inA Y r)
  (h:wpA P c (zrg P rs c1 Y r) (zaZ k args (Yr c0))):zhQ P f args c0 c1 Y r:=by
 subst hn;have e:fn.results.toList=rs:=by rw[Ug]
 subst e;intro H H' L φ hL Xs YE E9 X5 XJ;refine⟨Xd,fun ρ ok w vs hH hv=>?_⟩
 let ρX:Nat->Option Nat:=fun b=>if b=PIN then ρ L else none
 have hρX2:∀ b c,ρX b=some c->b=PIN/\ρ L=some c:=fun b c hc=>by
  simp only[ρX]at hc;split at hc
  .exact⟨‹_›,hc⟩
  .cases hc
 have hρX1:ρX PIN=ρ L:=by simp only[ρX,if_true]
 have GZ:HR ρX ok (Yr c0) w:=by
  refine⟨fun b cs hb=>?_,fun b hb=>?_,fun b b' c hb hb'=>?_,fun n hn=>⟨(hH.okR n hn).1,fun b hb=>(hH.okR n hn).2 _ (hρX2 b n hb).2⟩⟩
  .by_cases e:b=PIN
   .subst e
    have hb:some (c0.map C.t)=some cs:=hb;cases hb
    obtain⟨c,arr,el,h1,h2,h3,h4⟩:=hH.heap _ _ hL;refine⟨c,arr,el,by rw[hρX1];exact h1,h2,h3,fun j hj Y2=>?_⟩;have:=h4 j hj Y2;simp only[Qq]at this ⊢;cases this with|t h=>exact .t h
   .simp only[Yr,e,if_false]at hb;cases hb
  .by_cases e:b=PIN
   .simp only[Yr,e,if_true]at hb;cases hb
   .simp only[ρX,e,if_false]
  .obtain⟨k1,_⟩:=hρX2 b c hb
   obtain⟨k2,_⟩:=hρX2 b' c hb';rw[k1,k2]
 have FV:zaI w ok ρX args vs:=by
  refine⟨by rw[hv.1];simp,fun i hi Y6=>?_⟩;have:=hv.2 i (by simpa using hi) Y6;simp only[Qq]at this;refine this.unren (X:=Yr c0) (fun b c hb hc=>?_) (YD _ (Qf hi));by_cases e:b=PIN
  .subst e;rw[hρX1];exact hc
  .exact(hb (by simp only[Yr,e,if_false])).elim
 refine calls_of_wp hf hb (Code.wp_mono ?_ (zcu hm c _ _ ρX ok _ w (zdl GZ FV (by rw[hv.1];simpa using hl) XO) h));rintro e' a w' ⟨σ,ρ1,ok1,⟨he,YW,Vi,hP,hX⟩,s,g⟩;obtain⟨v,r1,r2⟩:=zc7 s YW;rw[Vi]at r2;have Jg:ρ1 PIN=ρ L:=by
  obtain⟨c,_,_,h1,_⟩:=s.heap _ _ hP;rcases g.pin PIN (Qd _)with h|h
  .rw[h];exact hρX1
  .rw[h]at h1;cases h1
 have himgρ:∀ x n,ρ x=some n->n<w.heap.size:=fun x n hx=>Yb (σ:=⟨0,fun _=>.junk,H⟩) hH hx
 have XR:∀ b c,b<PIN->ρ1 b=some c->w.heap.size<=c:=fun b c Wr hb=>by
  rcases g.img b c hb with⟨b',h1⟩|h1
  .obtain⟨_,k2⟩:=hρX2 b' c h1
   rw[<-Jg]at k2;have:=s.inj b PIN c hb k2;omega
  .exact h1
 have Y8:∀ n,n<w.heap.size->ρ L≠some n->w'.heap[n]? = w.heap[n]?:=fun n hn LN=>g.same n hn fun b e=>LN (hρX2 b n e).2
 have hk:zah ok w w':=fun n hn=>Y8 n (hH.okR n hn).1 ((hH.okR n hn).2 L)
 have Ve:∀ b c,Y b≠none->ρ1 b=some c->zay Y φ ρ1 ρ (φ b)=some c:=fun b c hb hc=>by rw[zho YE hb];exact hc
 have Xn:∀ x y,ρ x=some y->zay Y φ ρ1 ρ x=some y:=fun x y hx=>by
  rw[zfh (fun b hb e=>?_)]
  .exact hx
  .have:=hH.dom _ (Xs b hb).1
   rw[e,hx]at this;cases this
 have OD:∀ b,Y b≠none->φ b≠L:=fun b hb e=>by
  have:=(Xs b hb).1;rw[e,hL]at this;cases this
 have main:∃ v' ρ'' ok'',Ending.returned v = .returned v'/\RA w' ok'' ρ'' (rnA φ r) v'/\HR ρ'' ok'' H' w'/\Goes ρ ok w ρ'' ok'' w'/\∀ b c,ρ b=some c->ρ'' b=some c:=by
  refine⟨v,zay Y φ ρ1 ρ,ok1,rfl,r2.rnX Ve hr,⟨fun x cs hx=>?_,fun x hx=>?_,fun x y n hx hy=>?_,fun n hn=>⟨(s.okR n hn).1,fun x hx=>?_⟩⟩,⟨g.size,fun n hn hb=>Y8 n hn (hb L),g.shape,fun x n hx=>?_,g.up,fun n hn=>?_,fun x hx=>?_,g.env⟩,Xn⟩
  .by_cases Uh:∃ b,Y b≠none/\φ b=x
   .obtain⟨b,hb,rfl⟩:=Uh
    obtain⟨cs0,Xf⟩:=wbE.1 hb;rw[X5 b cs0 Xf]at hx;cases hx
    obtain⟨c,arr,el,h1,h2,h3,h4⟩:=s.heap b cs0 (hX b cs0 Xf);refine⟨c,arr,el,Ve b c hb h1,h2,by simpa using h3,fun j hj Y2=>?_⟩;simp only[Qm]at hj;simp only[Qq];exact(h4 j hj Y2).rnX Ve (Xo b cs0 Xf _ (Qf hj))
   .by_cases eL:x=L
    .subst eL
     rw[E9]at hx;cases hx
     obtain⟨c,arr,el,h1,h2,h3,h4⟩:=s.heap _ _ hP;refine⟨c,arr,el,Xn _ _ (by rw[<-Jg];exact h1),h2,h3,fun j hj Y2=>?_⟩;have:=h4 j hj Y2;simp only[Qq]at this ⊢;cases this with|t h=>exact .t h
    .rw[XJ x eL fun b h1 h2=>Uh ⟨b,h1,h2⟩]at hx
     obtain⟨cx,ax,ex,q1,q2,q3,q4⟩:=hH.heap x cs hx;exact⟨cx,ax,ex,Xn _ _ q1,by rw[Y8 cx (himgρ _ _ q1) (fun e=>eL (hH.inj _ _ _ q1 e))];exact q2,q3,fun j hj Y2=>(q4 j hj Y2).mono hk g.up g.shape Xn⟩
  .rcases hw:zay Y φ ρ1 ρ x with _|n
   .rfl
   .rcases zaa YE hw with⟨b,hb,rfl,_⟩|⟨h1,h2⟩
    .obtain⟨cs0,Xf⟩:=wbE.1 hb
     rw[X5 b cs0 Xf]at hx;cases hx
    .by_cases eL:x=L
     .subst eL;rw[E9]at hx;cases hx
     .rw[XJ x eL h1]at hx
      rw[hH.dom x hx]at h2;cases h2
  .rcases zaa YE hx with⟨b,hb,rfl,h1⟩|⟨_,h1⟩
   .rcases zaa YE hy with⟨b',hb',rfl,h2⟩|⟨_,h2⟩
    .rw[s.inj b b' n h1 h2]
    .have:=XR _ _ (Vv b hb) h1;have:=himgρ _ _ h2;omega
   .rcases zaa YE hy with⟨b',hb',rfl,h2⟩|⟨_,h2⟩
    .have:=XR _ _ (Vv b' hb') h2;have:=himgρ _ _ h1;omega
    .exact hH.inj x y n h1 h2
  .rcases zaa YE hx with⟨b,hb,rfl,h1⟩|⟨_,h1⟩
   .exact(s.okR n hn).2 b h1
   .rcases g.down n hn with k|⟨b',k⟩|k
    .exact(hH.okR n k).2 x h1
    .have k2:=(hρX2 b' n k).2
     rw[<-Jg]at k2;exact(s.okR n hn).2 _ k2
    .have:=himgρ _ _ h1;omega
  .rcases zaa YE hx with⟨b,hb,rfl,h1⟩|⟨_,h1⟩
   .exact .inr (XR _ _ (Vv b hb) h1)
   .exact .inl ⟨x,h1⟩
  .rcases g.down n hn with k|⟨b',k⟩|k
   .exact .inl k
   .exact .inr (.inl ⟨L,(hρX2 b' n k).2⟩)
   .exact .inr (.inr k)
  .left
   exact zfh fun b hb e=>by have:=(Xs b hb).2;omega
 have XX:a.defers=[]/\∃ v,(results fn a.tmps).run P w' = .ok v w'/\∃ v' ρ'' ok'',Ending.returned v = .returned v'/\RA w' ok'' ρ'' (rnA φ r) v'/\HR ρ'' ok'' H' w'/\Goes ρ ok w ρ'' ok'' w'/\∀ b c,ρ b=some c->ρ'' b=some c :=
  ⟨s.defers,v,r1,main⟩
 rcases he with rfl|rfl<;>exact XX
theorem zpv{m:Nat}{f:FuncId}{as args:List AV}{c0 c1:List T}{Y H':QE}{r:AV}{σ:St}{K:AV->St->Prop}(L:Nat)(φ:Nat->Nat)(hm:m=1\/m=2)(h:zhQ P f args c0 c1 Y r)(Xc:as=args.map (thA (thL L)))(hL:σ.H L=some (c0.map .t))(Xs:∀ b,Y b≠none->σ.H (φ b)=none/\φ b<PIN)
  (YE:∀ b b',Y b≠none->Y b'≠none->φ b=φ b'->b=b') (E9:H' L=some (c1.map .t)) (X5:∀ b cs,Y b=some cs->H' (φ b)=some (cs.map (rnC φ))) (XJ:∀ x,x≠L->(∀ b,Y b≠none->φ b≠x)->H' x=σ.H x) (hK:K (rnA φ r) (σ.withH H')):ZM P m f as σ K :=
 Xc▸.inr (.inl ⟨hm,_,_,h σ.H H' L φ hL Xs YE E9 X5 XJ,hK⟩)
end Go.Abs
namespace Go.Abs
theorem RT.ne{w:World}{ok:Nat->Prop}{xs:List (List T)}{v:Value}(hne:xs≠[])(h:RT w ok (.seq none xs) v):RT w ok (.seq (some false) xs) v:=by
 cases h with
 |seq h1 h2 h0 h3 h4 h5 h6 h7 h8 =>
  exact .seq h1 h2 h0 (fun e=>by cases e) (fun _ e=>by rw[(h6 hne).1]at e;cases e) h5 h6 h7 h8
theorem Q7.neA{P:Program}{f:FuncId}{xs:List (List T)}{l:List T}{args:List TV}{r:TV}(hne:xs≠[])(h:Q7 P f (.agg (.seq (some false) xs::l)::args) r):Q7 P f (.agg (.seq none xs::l)::args) r:=by
 refine⟨h.1,fun ok w vs YB hv=>h.2 ok w vs YB ⟨by rw[hv.1];simp,fun i hi Y6=>?_⟩⟩;have h2:=hv.2 i (by simpa using hi) Y6;cases i with
 |zero =>
  simp only[wat,wcI]at h2 ⊢;generalize vs[0]=v at h2;cases h2 with
  |agg a b =>
   refine .agg a fun j hj Y2=>?_
   have h3:=b j hj Y2;cases j with
   |zero =>
    simp only[wat,wcI]at h3 ⊢;cases h3 with|t h3=>exact .t (h3.ne hne)
   |succ j =>
    simp only[wat,wcJ]at h3 ⊢;exact h3
 |succ i =>
  simp only[wat,wcJ]at h2 ⊢;exact h2
section
variable {P:Program} {m:Nat} {ops:Array Oper}
theorem zwR{tk Z:List Nat}{L:Array Bool}{zf:Nat}(YO:zcV (Z++tk) m [] ops=true)(hL:L.size=ops.size)(HV:∀ i,i<ops.size->L.getD i true=!Z.contains i){Qa:St->Prop}{Q:Exit->Act->World->Prop} :
  ∀ (n:Nat) (l:List Nat) (listed:Array Bool) (σ:St) (ρ:Nat->Option Nat) (ok:Nat->Prop) (a:Act) (w:World),l.length=n->l.Pairwise (·<·)->(∀ i,i∈l↔i<ops.size/\listed.getD i true=false/\¬i∈Z)->(∀ i∈l,tk.contains i=false)->(∀ z∈Z,listed.getD z true=false) ->
   (∀ z∈Z,∀ k∈l,k<z/\zdu ops (z+1) k z=true)->zjL ops listed->listed.size=ops.size->SR ρ ok σ a w->Ye P m ops.toList Qa (Zq ops l) σ ->
   (∀ σ' ρ' ok' a' w',Qa σ'->SR ρ' ok' σ' a' w'->Goes ρ ok w ρ' ok' w'->wpAny P .any ops Q zf L a' w')->wpAny P .any ops Q (n+zf) listed a w:=by
 intro n
 induction n with
 |zero =>
  intro l listed σ ρ ok a w Y4 hp hl Wp hz Vo hc XF h hr hq;have:l=[]:=wbd.1 Y4;subst this;have e:listed=L:=by
   apply Array.ext (by rw[XF,hL]);intro i h1 h2;have hi:i<ops.size:=by omega
   have h3:=HV i hi;rw[wck,waY h2]at h3;by_cases EZ:i∈Z
   .have h4:=hz i EZ
    rw[wck,waY h1]at h4;have h5:Z.contains i=true:=by simpa using EZ
    rw[h5]at h3;simp only[waX]at h3 h4;rw[h3,h4];rfl
   .have h4:¬(i<ops.size/\listed.getD i true=false/\¬i∈Z):=fun h=>by have:=(hl i).2 h;simp at this
    have h5:Z.contains i=false:=by simpa using EZ
    rw[h5]at h3;rw[wck,waY h1]at h4;simp only[waX]at h3 h4;rw[h3];cases hb:listed[i]with
    |true=>rfl
    |false=>exact(h4 ⟨hi,hb,EZ⟩).elim
  subst e;rw[waT];exact hq σ ρ ok a w hr h (Goes.refl _ _ _)
 |succ n ih =>
  intro l listed σ ρ ok a w Y4 hp hl Wp hz Vo hc XF h hr hq;have WI:Yy [] σ:=fun _ hp=>Qn hp (by simp)
  have NI:∀ i∈l,(Z++tk).contains i=false:=fun i hi=>by
   have h1:=Wp i hi;have h2:=((hl i).1 hi).2.2;simp only[List.contains_eq_mem,wao]at h1 ⊢;simpa[h2]using h1
  rw[show n+1+zf=(n+zf)+1 by omega];refine⟨fun DL=>?_,fun i hi=>?_⟩
  .cases l with
   |nil=>simp at Y4
   |cons i l =>
    exfalso;obtain⟨hi,RW,DM⟩:=(hl i).1 (by simp);have Jo:i∉Region.ready .any ops listed:=by rw[DL];simp
    rw[mem_ready]at Jo;have ho:ops[i]? = some ops[i]:=by simp[hi]
    refine Jo ⟨RW,ops[i],ho,fun e he hb=>?_⟩;unfold zcV at YO;rw[waj]at YO
    replace YO:=YO.2
    rw[wac]at YO;have h1:=YO i (by simpa using hi);rw[NI i (by simp),wcb,waj]at h1;have h2:=h1.1;simp only[zhi,ho]at h2;rw[wac]at h2;have Y1:e.on<i:=by simpa[hb]using h2 e (by simpa using he)
    cases Xb:listed.getD e.on true with
    |true =>
     have:e.on<listed.size:=by omega
     simpa[this]using Xb
    |false =>
     by_cases MG:e.on∈Z
     .have:=(Vo e.on MG i (by simp)).1;omega
     .have UY:=(hl e.on).2 ⟨by omega,Xb,MG⟩
      rcases wad.1 UY with h3|h3
      .omega
      .have:=wdM hp h3;omega
  .obtain⟨RW,o,ho,hall⟩:=mem_ready.1 hi
   have Y1:i<ops.size:=(wdk.1 ho).1;have DM:¬i∈Z:=fun DM=>by
    cases l with
    |nil=>simp at Y4
    |cons k l =>
     have h2:=(Vo i DM k (by simp)).2;have hk:=(hl k).1 (by simp);rcases zkg hc (i+1) k i o ho hall h2 with h3|h3
     .have:k<listed.size:=by omega
      have RX:=hk.2.1;simp[this]at RX h3;rw[RX]at h3;cases h3
     .omega
   have UY:=(hl i).2 ⟨Y1,RW,DM⟩;obtain⟨l₁,l₂,rfl⟩:=List.append_of_mem UY;have Ka:∀ (j:Nat) (x:Oper),ops[j]? = some x->zbG m [] x=true:=fun j x _=>by simp[zbG]
   have KG:∀ x∈Zq ops l₁,zbG m [] x=true:=fun x _=>by simp[zbG]
   have VQ:∀ x∈Zq ops l₁,zfB m [] ops x o=true:=by
    intro x hx;unfold Zq at hx;obtain⟨k,hk,WG⟩:=wdJ.1 hx;have K6:k<i:=by
     have:=wcl.1 hp;exact this.2.2 k hk i (by simp)
    unfold zcV at YO;rw[waj]at YO
    replace YO:=YO.2
    rw[wac]at YO;have h1:=YO i (by simpa using Y1);rw[NI i (by simp),wcb,waj,wac]at h1;have h2:=h1.2 k (by simpa using K6);rw[NI k (by simp[hk]),wcb]at h2;simp only[WG,ho,wbL]at h2;rcases h2 with h2|h2
    .exact h2
    .exfalso
     have RX:=((hl k).1 (by simp[hk])).2.1;rcases zkg hc (i+1) k i o ho hall h2 with h3|h3
     .have:k<listed.size:=by omega
      simp[this]at RX h3;rw[RX]at h3;cases h3
     .omega
   have NJ:Zq ops (l₁++i::l₂)=Zq ops l₁++o::Zq ops l₂:=by
    simp[Zq,ho]
   rw[NJ]at hr;have VH:=zmO (Zq ops l₁) (Zq ops l₂) σ WI KG VQ hr;refine zno ho WI (Ka i o ho) h VH fun σ' ρ' ok' a' w' DN J8 h' GB=>?_
   have Jp:Zq ops l₁++Zq ops l₂=Zq ops (l₁++l₂):=by simp[Zq]
   rw[Jp]at J8;have JL:i∉l₁/\i∉l₂:=by
    have Wm:=wcl.1 hp;refine⟨fun hm=>?_,fun hm=>?_⟩
    .have:=Wm.2.2 i hm i (by simp);omega
    .have:=wdM Wm.2.1 hm;omega
   refine ih (l₁++l₂) (listed.setIfInBounds i true) σ' ρ' ok' a' w' ?_ ?_ ?_ (fun k hk=>Wp k (by rcases wao.1 hk with h|h<;>simp[h])) ?_ (fun z Kt k hk=>Vo z Kt k (by rcases wao.1 hk with h|h<;>simp[h])) ?_ (by simpa using XF) h' J8 (fun σ'' ρ'' ok'' a'' w'' q s g=>hq σ'' ρ'' ok'' a'' w'' q s (GB.trans g))
   .simp at Y4 ⊢;omega
   .have Wm:=wcl.1 hp
    exact wcl.2 ⟨Wm.1,(wca.1 Wm.2.1).2,fun x hx y hy=>Wm.2.2 x hx y (by simp[hy])⟩
   .intro k
    have XT:=hl k;by_cases K6:k=i
    .subst K6
     simp only[wao];constructor
     .rintro(h1|h1)
      .exact Qn h1 JL.1
      .exact Qn h1 JL.2
     .rintro⟨_,h1,_⟩
      simp[XF,Y1]at h1
    .rw[getD_set_ne true (Ne.symm K6),<-XT]
     simp[K6]
   .intro z Kt
    have hne:z≠i:=fun e=>DM (e▸Kt)
    rw[getD_set_ne true (Ne.symm hne)];exact hz z Kt
   .intro j oj hj VK e he hb
    by_cases JD:j=i
    .subst JD
     rw[ho]at hj;cases hj
     exact getD_set_true (hall e he hb)
    .rw[getD_set_ne false (Ne.symm JD)]at VK
     exact getD_set_true (hc j oj hj VK e he hb)
theorem QK.pre{q:St->Prop}{listed:Array Bool}{σ:St}{fuel:Nat}(tk:List Nat)(m:Nat)(l Z:List Nat)(L:Array Bool)(zf:Nat)(YO:zcV (Z++tk) m [] ops=true)
  (hl:(List.range ops.size).filter (fun i=>!listed.getD i true&&!Z.contains i)=l) (Wp:l.all (fun i=>!tk.contains i)=true) (hz:Z.all (fun z=>!listed.getD z true&&l.all fun k=>decide (k<z)&&zdu ops (z+1) k z)=true)
  (hc:zjk ops listed=true) (XF:listed.size=ops.size) (hL:L.size=ops.size) (HV:(List.range ops.size).all (fun i=>L.getD i true==!Z.contains i)=true) (hf:fuel=l.length+zf)
  (h:Ye P m ops.toList (fun σ'=>QK P ops q zf L σ') (Zq ops l) σ):QK P ops q fuel listed σ:=by
 intro ρ ok a w hs Q' PB hn;subst hl;rw[hf];rw[wac]at hz;refine zwR YO hL (fun i hi=>by have:=wac.1 HV i (wav.2 hi);simpa using this) _ _ listed σ ρ ok a w rfl (wdZ _ wdu) (fun i=>?_) (fun i hi=>?_) (fun z Kt=>?_) (fun z Kt k hk=>?_) (zne hc) XF hs h fun σ' ρ' ok' a' w' hq JA hg=>?_
 .simp[]
 .have:=wac.1 Wp i hi
  simpa using this
 .have:=hz z Kt
  rw[waj]at this;simpa using this.1
 .have:=hz z Kt
  rw[waj,wac]at this;have:=this.2 k hk;rw[waj,waA]at this;exact this
 .exact hq ρ' ok' a' w' JA Q' PB fun σ'' ρ'' ok'' a'' w'' q1 s1 g1=>hn σ'' ρ'' ok'' a'' w'' q1 s1 (hg.trans g1)
end
end Go.Abs
