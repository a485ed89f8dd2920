/- At every input the call answers true and leaves its arguments as they were; no conditions. -/
import Derived.Test.YtlgjjcmljmjenaaGreatAj
set_option linter.unusedSimpArgs false
set_option linter.unusedVariables false
set_option maxRecDepth 100000
namespace Go.Abs
section
variable {X:Nat->Option (List T)} {ρ:Nat->Option Nat} {ok:Nat->Prop} {w:World} {σ:St} {a:Act}
def zfH(H:QD):List (Nat×List T)->Prop
 |[]=>True
 |(b,ts)::l=>H b=some (ts.map .t)/\zfH H l
theorem zfH.all{H:QD}:∀ {l:List (Nat×List T)},zfH H l->∀ p∈l,H p.1=some (p.2.map .t)
 |[],_,p,hp=>by cases hp
 |q::l,h,p,hp=>by
  rcases wab.1 hp with rfl|hp
  .exact h.1
  .exact zfH.all h.2 p hp
@[go_sem] theorem zCT{H:QD}:zfH H []=True:=rfl
@[go_sem] theorem zBJ{H:QD}{b:Nat}{ts:List T}{l:List (Nat×List T)}:zfH H ((b,ts)::l)=(H b=some (ts.map .t)/\zfH H l):=rfl
end
inductive FzCs(H:QD):List C->List T->Prop where
 |nil:FzCs H [] []
 |cons {c:C} {x:T} {cs:List C} {xs:List T}:FzC H c x->FzCs H cs xs->FzCs H (c::cs) (x::xs)
theorem FzCs.get{H:QD}{cs:List C}{xs:List T}(h:FzCs H cs xs):xs.length=cs.length/\∀ j (hj:j<cs.length) (Yz:j<xs.length),FzC H cs[j] xs[j]:=by
 induction h with
 |nil=>exact⟨rfl,fun j hj=>by simp at hj⟩
 |cons h1 _ ih =>
  refine⟨by simp[ih.1],fun j hj Yz=>?_⟩;cases j with
  |zero=>exact h1
  |succ j=>exact ih.2 j (by simpa using hj) (by simpa using Yz)
theorem zjI{H:QD}{cs:List C}{xs:List T}(h:FzCs H cs xs):FzA H (.agg cs) (.agg xs):=.agg h.get.1 h.get.2
attribute [go_sem] Option.isSome_none
end Go.Abs
namespace Go.Abs
variable {P:Program}
end Go.Abs
namespace Go.Abs
def thL(L:Nat):Nat->Nat:=fun _=>L
def Ym(cs:List T):QD:=fun b=>if b=PIN then some (cs.map .t)else none
variable {P:Program}
def zhI(P:Program)(f:FuncId)(args:List AV)(c0 c1:List T)(Y:QD)(r:AV):Prop :=
 ∀ (H H':QD) (L:Nat) (φ:Nat->Nat),H L=some (c0.map .t)->(∀ b,Y b≠none->H (φ b)=none/\φ b<PIN)->(∀ b b',Y b≠none->Y b'≠none->φ b=φ b'->b=b') ->
  H' L=some (c1.map .t)->(∀ b cs,Y b=some cs->H' (φ b)=some (cs.map (rnC φ)))->(∀ x,x≠L->(∀ b,Y b≠none->φ b≠x)->H' x=H x)->Zf P f (args.map (thA (thL L))) H (rnA φ r) H'
def zro(P:Program)(rs:List ResultVar)(c1:List T)(Y:QD)(r:AV)(e:Exit)(σ:St):Prop :=
 (e = .normal\/e = .ret)/\(∀ x∈rs,zal P σ x)/\zb7 P rs σ=r/\σ.H PIN=some (c1.map .t)/\∀ b cs,Y b=some cs->σ.H b=some cs
theorem zfL(hm:P.follows .mixedOrders=true){f:FuncId}{fn:Func}{c:Code}{k:Nat}{rs:List ResultVar}{args:List AV}{c0 c1:List T}{Y:QD}{r:AV}(Xb:∀ (as:Array Value) w,(callFunc f as).run P w = .ok (.enter f as) w)(hf:P.funcs[f]? = some fn)
  (hb:fn.body=some c) (hn:fn.ntmps=k) (UK:fn.results=rs.toArray) (hl:args.length<=k) (Vt:k<=PIN) (YB:∀ x∈args,inA (Ym c0) x) (Vu:∀ b,Y b≠none->b<PIN) (YW:∀ b cs,Y b=some cs->∀ c∈cs,inC Y c) (hr:inA Y r)
  (h:wpA P c (zro P rs c1 Y r) (zbb k args (Ym c0))):zhI P f args c0 c1 Y r:=by
 subst hn;have e:fn.results.toList=rs:=by rw[UK]
 subst e;intro H H' L φ hL Xq Y8 Ew X5 XF;refine⟨Xb,fun ρ ok w vs hH hv=>?_⟩
 let ρX:Nat->Option Nat:=fun b=>if b=PIN then ρ L else none
 have hρX2:∀ b c,ρX b=some c->b=PIN/\ρ L=some c:=fun b c hc=>by
  simp only[ρX]at hc;split at hc
  .exact⟨‹_›,hc⟩
  .cases hc
 have hρX1:ρX PIN=ρ L:=by simp only[ρX,if_true]
 have GN:HR ρX ok (Ym c0) w:=by
  refine⟨fun b cs hb=>?_,fun b hb=>?_,fun b b' c hb hb'=>?_,fun n hn=>⟨(hH.okR n hn).1,fun b hb=>(hH.okR n hn).2 _ (hρX2 b n hb).2⟩⟩
  .by_cases e:b=PIN
   .subst e
    have hb:some (c0.map C.t)=some cs:=hb;cases hb
    obtain⟨c,arr,el,h1,h2,h3,h4⟩:=hH.heap _ _ hL;refine⟨c,arr,el,by rw[hρX1];exact h1,h2,h3,fun j hj Yz=>?_⟩;have:=h4 j hj Yz;simp only[Qq]at this ⊢;cases this with|t h=>exact .t h
   .simp only[Ym,e,if_false]at hb;cases hb
  .by_cases e:b=PIN
   .simp only[Ym,e,if_true]at hb;cases hb
   .simp only[ρX,e,if_false]
  .obtain⟨k1,_⟩:=hρX2 b c hb
   obtain⟨k2,_⟩:=hρX2 b' c hb';rw[k1,k2]
 have FH:zaH w ok ρX args vs:=by
  refine⟨by rw[hv.1];simp,fun i hi Y6=>?_⟩;have:=hv.2 i (by simpa using hi) Y6;simp only[Qq]at this;refine this.unren (X:=Ym c0) (fun b c hb hc=>?_) (YB _ (Qh hi));by_cases e:b=PIN
  .subst e;rw[hρX1];exact hc
  .exact(hb (by simp only[Ym,e,if_false])).elim
 refine calls_of_wp hf hb (Code.wp_mono ?_ (zdD hm c _ _ ρX ok _ w (zdP GN FH (by rw[hv.1];simpa using hl) Vt) h));rintro e' a w' ⟨σ,ρ1,ok1,⟨he,YX,Ve,hP,hX⟩,s,g⟩;obtain⟨v,r1,r2⟩:=zdv s YX;rw[Ve]at r2;have KW:ρ1 PIN=ρ L:=by
  obtain⟨c,_,_,h1,_⟩:=s.heap _ _ hP;rcases g.pin PIN (Qd _)with h|h
  .rw[h];exact hρX1
  .rw[h]at h1;cases h1
 have himgρ:∀ x n,ρ x=some n->n<w.heap.size:=fun x n hx=>Yb (σ:=⟨0,fun _=>.junk,H⟩) hH hx
 have XM:∀ b c,b<PIN->ρ1 b=some c->w.heap.size<=c:=fun b c Wn hb=>by
  rcases g.img b c hb with⟨b',h1⟩|h1
  .obtain⟨_,k2⟩:=hρX2 b' c h1
   rw[<-KW]at k2;have:=s.inj b PIN c hb k2;omega
  .exact h1
 have Y4:∀ n,n<w.heap.size->ρ L≠some n->w'.heap[n]? = w.heap[n]?:=fun n hn L9=>g.same n hn fun b e=>L9 (hρX2 b n e).2
 have hk:zai ok w w':=fun n hn=>Y4 n (hH.okR n hn).1 ((hH.okR n hn).2 L)
 have XZ:∀ b c,Y b≠none->ρ1 b=some c->zax Y φ ρ1 ρ (φ b)=some c:=fun b c hb hc=>by rw[zhf Y8 hb];exact hc
 have Xk:∀ x y,ρ x=some y->zax Y φ ρ1 ρ x=some y:=fun x y hx=>by
  rw[zfa (fun b hb e=>?_)]
  .exact hx
  .have:=hH.dom _ (Xq b hb).1
   rw[e,hx]at this;cases this
 have OA:∀ b,Y b≠none->φ b≠L:=fun b hb e=>by
  have:=(Xq b hb).1;rw[e,hL]at this;cases this
 have main:∃ v' ρ'' ok'',Ending.returned v = .returned v'/\RA w' ok'' ρ'' (rnA φ r) v'/\HR ρ'' ok'' H' w'/\Goes ρ ok w ρ'' ok'' w'/\∀ b c,ρ b=some c->ρ'' b=some c:=by
  refine⟨v,zax Y φ ρ1 ρ,ok1,rfl,r2.rnX XZ hr,⟨fun x cs hx=>?_,fun x hx=>?_,fun x y n hx hy=>?_,fun n hn=>⟨(s.okR n hn).1,fun x hx=>?_⟩⟩,⟨g.size,fun n hn hb=>Y4 n hn (hb L),g.shape,fun x n hx=>?_,g.up,fun n hn=>?_,fun x hx=>?_,g.env⟩,Xk⟩
  .by_cases Ud:∃ b,Y b≠none/\φ b=x
   .obtain⟨b,hb,rfl⟩:=Ud
    obtain⟨cs0,Xa⟩:=wby.1 hb;rw[X5 b cs0 Xa]at hx;cases hx
    obtain⟨c,arr,el,h1,h2,h3,h4⟩:=s.heap b cs0 (hX b cs0 Xa);refine⟨c,arr,el,XZ b c hb h1,h2,by simpa using h3,fun j hj Yz=>?_⟩;simp only[Qm]at hj;simp only[Qq];exact(h4 j hj Yz).rnX XZ (YW b cs0 Xa _ (Qh hj))
   .by_cases eL:x=L
    .subst eL
     rw[Ew]at hx;cases hx
     obtain⟨c,arr,el,h1,h2,h3,h4⟩:=s.heap _ _ hP;refine⟨c,arr,el,Xk _ _ (by rw[<-KW];exact h1),h2,h3,fun j hj Yz=>?_⟩;have:=h4 j hj Yz;simp only[Qq]at this ⊢;cases this with|t h=>exact .t h
    .rw[XF x eL fun b h1 h2=>Ud ⟨b,h1,h2⟩]at hx
     obtain⟨cx,ax,ex,q1,q2,q3,q4⟩:=hH.heap x cs hx;exact⟨cx,ax,ex,Xk _ _ q1,by rw[Y4 cx (himgρ _ _ q1) (fun e=>eL (hH.inj _ _ _ q1 e))];exact q2,q3,fun j hj Yz=>(q4 j hj Yz).mono hk g.up g.shape Xk⟩
  .rcases hw:zax Y φ ρ1 ρ x with _|n
   .rfl
   .rcases zaa Y8 hw with⟨b,hb,rfl,_⟩|⟨h1,h2⟩
    .obtain⟨cs0,Xa⟩:=wby.1 hb
     rw[X5 b cs0 Xa]at hx;cases hx
    .by_cases eL:x=L
     .subst eL;rw[Ew]at hx;cases hx
     .rw[XF x eL h1]at hx
      rw[hH.dom x hx]at h2;cases h2
  .rcases zaa Y8 hx with⟨b,hb,rfl,h1⟩|⟨_,h1⟩
   .rcases zaa Y8 hy with⟨b',hb',rfl,h2⟩|⟨_,h2⟩
    .rw[s.inj b b' n h1 h2]
    .have:=XM _ _ (Vu b hb) h1;have:=himgρ _ _ h2;omega
   .rcases zaa Y8 hy with⟨b',hb',rfl,h2⟩|⟨_,h2⟩
    .have:=XM _ _ (Vu b' hb') h2;have:=himgρ _ _ h1;omega
    .exact hH.inj x y n h1 h2
  .rcases zaa Y8 hx with⟨b,hb,rfl,h1⟩|⟨_,h1⟩
   .exact(s.okR n hn).2 b h1
   .rcases g.down n hn with k|⟨b',k⟩|k
    .exact(hH.okR n k).2 x h1
    .have k2:=(hρX2 b' n k).2
     rw[<-KW]at k2;exact(s.okR n hn).2 _ k2
    .have:=himgρ _ _ h1;omega
  .rcases zaa Y8 hx with⟨b,hb,rfl,h1⟩|⟨_,h1⟩
   .exact .inr (XM _ _ (Vu b hb) h1)
   .exact .inl ⟨x,h1⟩
  .rcases g.down n hn with k|⟨b',k⟩|k
   .exact .inl k
   .exact .inr (.inl ⟨L,(hρX2 b' n k).2⟩)
   .exact .inr (.inr k)
  .left
   exact zfa fun b hb e=>by have:=(Xq b hb).2;omega
 have XU:a.defers=[]/\∃ v,(results fn a.tmps).run P w' = .ok v w'/\∃ v' ρ'' ok'',Ending.returned v = .returned v'/\RA w' ok'' ρ'' (rnA φ r) v'/\HR ρ'' ok'' H' w'/\Goes ρ ok w ρ'' ok'' w'/\∀ b c,ρ b=some c->ρ'' b=some c :=
  ⟨s.defers,v,r1,main⟩
 rcases he with rfl|rfl<;>exact XU
theorem zpp{m:Nat}{f:FuncId}{as args:List AV}{c0 c1:List T}{Y H':QD}{r:AV}{σ:St}{K:AV->St->Prop}(L:Nat)(φ:Nat->Nat)(hm:m=1\/m=2)(h:zhI P f args c0 c1 Y r)(YY:as=args.map (thA (thL L)))(hL:σ.H L=some (c0.map .t))(Xq:∀ b,Y b≠none->σ.H (φ b)=none/\φ b<PIN)
  (Y8:∀ b b',Y b≠none->Y b'≠none->φ b=φ b'->b=b') (Ew:H' L=some (c1.map .t)) (X5:∀ b cs,Y b=some cs->H' (φ b)=some (cs.map (rnC φ))) (XF:∀ x,x≠L->(∀ b,Y b≠none->φ b≠x)->H' x=σ.H x) (hK:K (rnA φ r) (σ.withH H')):ZK P m f as σ K :=
 YY▸.inr (.inl ⟨hm,_,_,h σ.H H' L φ hL Xq Y8 Ew X5 XF,hK⟩)
end Go.Abs
namespace Go.Abs
theorem RT.ne{w:World}{ok:Nat->Prop}{xs:List (List T)}{v:Value}(hne:xs≠[])(h:RT w ok (.seq none xs) v):RT w ok (.seq (some false) xs) v:=by
 cases h with
 |seq h1 h2 h0 h3 h4 h5 h6 h7 h8 =>
  exact .seq h1 h2 h0 (fun e=>by cases e) (fun _ e=>by rw[(h6 hne).1]at e;cases e) h5 h6 h7 h8
theorem Q9.neA{P:Program}{f:FuncId}{xs:List (List T)}{l:List T}{args:List TV}{r:TV}(hne:xs≠[])(h:Q9 P f (.agg (.seq (some false) xs::l)::args) r):Q9 P f (.agg (.seq none xs::l)::args) r:=by
 refine⟨h.1,fun ok w vs YA hv=>h.2 ok w vs YA ⟨by rw[hv.1];simp,fun i hi Y6=>?_⟩⟩;have h2:=hv.2 i (by simpa using hi) Y6;cases i with
 |zero =>
  simp only[waq,wcG]at h2 ⊢;generalize vs[0]=v at h2;cases h2 with
  |agg a b =>
   refine .agg a fun j hj Yz=>?_
   have h3:=b j hj Yz;cases j with
   |zero =>
    simp only[waq,wcG]at h3 ⊢;cases h3 with|t h3=>exact .t (h3.ne hne)
   |succ j =>
    simp only[waq,wcH]at h3 ⊢;exact h3
 |succ i =>
  simp only[waq,wcH]at h2 ⊢;exact h2
section
variable {P:Program} {m:Nat} {ops:Array Oper}
theorem zw4{tk Z:List Nat}{L:Array Bool}{zf:Nat}(YM:zcP (Z++tk) m [] ops=true)(hL:L.size=ops.size)(HH:∀ i,i<ops.size->L.getD i true=!Z.contains i){Qa:St->Prop}{Q:Exit->Act->World->Prop} :
  ∀ (n:Nat) (l:List Nat) (listed:Array Bool) (σ:St) (ρ:Nat->Option Nat) (ok:Nat->Prop) (a:Act) (w:World),l.length=n->l.Pairwise (·<·)->(∀ i,i∈l↔i<ops.size/\listed.getD i true=false/\¬i∈Z)->(∀ i∈l,tk.contains i=false)->(∀ z∈Z,listed.getD z true=false) ->
   (∀ z∈Z,∀ k∈l,k<z/\zdl ops (z+1) k z=true)->zjx ops listed->listed.size=ops.size->SR ρ ok σ a w->Yf P m ops.toList Qa (Zn ops l) σ ->
   (∀ σ' ρ' ok' a' w',Qa σ'->SR ρ' ok' σ' a' w'->Goes ρ ok w ρ' ok' w'->wpAny P .any ops Q zf L a' w')->wpAny P .any ops Q (n+zf) listed a w:=by
 intro n
 induction n with
 |zero =>
  intro l listed σ ρ ok a w Y0 hp hl Wk hz Vk hc XE h hr hq;have:l=[]:=wbd.1 Y0;subst this;have e:listed=L:=by
   apply Array.ext (by rw[XE,hL]);intro i h1 h2;have hi:i<ops.size:=by omega
   have h3:=HH i hi;rw[wcg,waW h2]at h3;by_cases EQ:i∈Z
   .have h4:=hz i EQ
    rw[wcg,waW h1]at h4;have h5:Z.contains i=true:=by simpa using EQ
    rw[h5]at h3;simp only[waV]at h3 h4;rw[h3,h4];rfl
   .have h4:¬(i<ops.size/\listed.getD i true=false/\¬i∈Z):=fun h=>by have:=(hl i).2 h;simp at this
    have h5:Z.contains i=false:=by simpa using EQ
    rw[h5]at h3;rw[wcg,waW h1]at h4;simp only[waV]at h3 h4;rw[h3];cases hb:listed[i]with
    |true=>rfl
    |false=>exact(h4 ⟨hi,hb,EQ⟩).elim
  subst e;rw[waY];exact hq σ ρ ok a w hr h (Goes.refl _ _ _)
 |succ n ih =>
  intro l listed σ ρ ok a w Y0 hp hl Wk hz Vk hc XE h hr hq;have U0:zaN [] σ:=fun _ hp=>Qo hp (by simp)
  have Nx:∀ i∈l,(Z++tk).contains i=false:=fun i hi=>by
   have h1:=Wk i hi;have h2:=((hl i).1 hi).2.2;simp only[List.contains_eq_mem,wan]at h1 ⊢;simpa[h2]using h1
  rw[show n+1+zf=(n+zf)+1 by omega];refine⟨fun Dw=>?_,fun i hi=>?_⟩
  .cases l with
   |nil=>simp at Y0
   |cons i l =>
    exfalso;obtain⟨hi,RD,Dx⟩:=(hl i).1 (by simp);have Jh:i∉Region.ready .any ops listed:=by rw[Dw];simp
    rw[mem_ready]at Jh;have ho:ops[i]? = some ops[i]:=by simp[hi]
    refine Jh ⟨RD,ops[i],ho,fun e he hb=>?_⟩;unfold zcP at YM;rw[wag]at YM
    replace YM:=YM.2
    rw[wai]at YM;have h1:=YM i (by simpa using hi);rw[Nx i (by simp),wb7,wag]at h1;have h2:=h1.1;simp only[zhb,ho]at h2;rw[wai]at h2;have Yw:e.on<i:=by simpa[hb]using h2 e (by simpa using he)
    cases YZ:listed.getD e.on true with
    |true =>
     have:e.on<listed.size:=by omega
     simpa[this]using YZ
    |false =>
     by_cases Mw:e.on∈Z
     .have:=(Vk e.on Mw i (by simp)).1;omega
     .have Uk:=(hl e.on).2 ⟨by omega,YZ,Mw⟩
      rcases wab.1 Uk with h3|h3
      .omega
      .have:=wdH hp h3;omega
  .obtain⟨RD,o,ho,hall⟩:=mem_ready.1 hi
   have Yw:i<ops.size:=(wde.1 ho).1;have Dx:¬i∈Z:=fun Dx=>by
    cases l with
    |nil=>simp at Y0
    |cons k l =>
     have h2:=(Vk i Dx k (by simp)).2;have hk:=(hl k).1 (by simp);rcases zj5 hc (i+1) k i o ho hall h2 with h3|h3
     .have:k<listed.size:=by omega
      have RE:=hk.2.1;simp[this]at RE h3;rw[RE]at h3;cases h3
     .omega
   have Uk:=(hl i).2 ⟨Yw,RD,Dx⟩;obtain⟨l₁,l₂,rfl⟩:=List.append_of_mem Uk;have WO:∀ (j:Nat) (x:Oper),ops[j]? = some x->zbF m [] x=true:=fun j x _=>by simp[zbF]
   have KA:∀ x∈Zn ops l₁,zbF m [] x=true:=fun x _=>by simp[zbF]
   have VN:∀ x∈Zn ops l₁,zfq m [] ops x o=true:=by
    intro x hx;unfold Zn at hx;obtain⟨k,hk,Wx⟩:=wdD.1 hx;have Ku:k<i:=by
     have:=wch.1 hp;exact this.2.2 k hk i (by simp)
    unfold zcP at YM;rw[wag]at YM
    replace YM:=YM.2
    rw[wai]at YM;have h1:=YM i (by simpa using Yw);rw[Nx i (by simp),wb7,wag,wai]at h1;have h2:=h1.2 k (by simpa using Ku);rw[Nx k (by simp[hk]),wb7]at h2;simp only[Wx,ho,wbE]at h2;rcases h2 with h2|h2
    .exact h2
    .exfalso
     have RE:=((hl k).1 (by simp[hk])).2.1;rcases zj5 hc (i+1) k i o ho hall h2 with h3|h3
     .have:k<listed.size:=by omega
      simp[this]at RE h3;rw[RE]at h3;cases h3
     .omega
   have Ny:Zn ops (l₁++i::l₂)=Zn ops l₁++o::Zn ops l₂:=by
    simp[Zn,ho]
   rw[Ny]at hr;have VE:=zmC (Zn ops l₁) (Zn ops l₂) σ U0 KA VN hr;refine znd ho U0 (WO i o ho) h VE fun σ' ρ' ok' a' w' Dy Jr h' Gs=>?_
   have Ji:Zn ops l₁++Zn ops l₂=Zn ops (l₁++l₂):=by simp[Zn]
   rw[Ji]at Jr;have NS:i∉l₁/\i∉l₂:=by
    have Wi:=wch.1 hp;refine⟨fun hm=>?_,fun hm=>?_⟩
    .have:=Wi.2.2 i hm i (by simp);omega
    .have:=wdH Wi.2.1 hm;omega
   refine ih (l₁++l₂) (listed.setIfInBounds i true) σ' ρ' ok' a' w' ?_ ?_ ?_ (fun k hk=>Wk k (by rcases wan.1 hk with h|h<;>simp[h])) ?_ (fun z Kl k hk=>Vk z Kl k (by rcases wan.1 hk with h|h<;>simp[h])) ?_ (by simpa using XE) h' Jr (fun σ'' ρ'' ok'' a'' w'' q s g=>hq σ'' ρ'' ok'' a'' w'' q s (Gs.trans g))
   .simp at Y0 ⊢;omega
   .have Wi:=wch.1 hp
    exact wch.2 ⟨Wi.1,(wbL.1 Wi.2.1).2,fun x hx y hy=>Wi.2.2 x hx y (by simp[hy])⟩
   .intro k
    have XR:=hl k;by_cases Ku:k=i
    .subst Ku
     simp only[wan];constructor
     .rintro(h1|h1)
      .exact Qo h1 NS.1
      .exact Qo h1 NS.2
     .rintro⟨_,h1,_⟩
      simp[XE,Yw]at h1
    .rw[getD_set_ne true (Ne.symm Ku),<-XR]
     simp[Ku]
   .intro z Kl
    have hne:z≠i:=fun e=>Dx (e▸Kl)
    rw[getD_set_ne true (Ne.symm hne)];exact hz z Kl
   .intro j oj hj VH e he hb
    by_cases K5:j=i
    .subst K5
     rw[ho]at hj;cases hj
     exact getD_set_true (hall e he hb)
    .rw[getD_set_ne false (Ne.symm K5)]at VH
     exact getD_set_true (hc j oj hj VH e he hb)
theorem QN.pre{q:St->Prop}{listed:Array Bool}{σ:St}{fuel:Nat}(tk:List Nat)(m:Nat)(l Z:List Nat)(L:Array Bool)(zf:Nat)(YM:zcP (Z++tk) m [] ops=true)
  (hl:(List.range ops.size).filter (fun i=>!listed.getD i true&&!Z.contains i)=l) (Wk:l.all (fun i=>!tk.contains i)=true) (hz:Z.all (fun z=>!listed.getD z true&&l.all fun k=>decide (k<z)&&zdl ops (z+1) k z)=true)
  (hc:zja ops listed=true) (XE:listed.size=ops.size) (hL:L.size=ops.size) (HH:(List.range ops.size).all (fun i=>L.getD i true==!Z.contains i)=true) (hf:fuel=l.length+zf)
  (h:Yf P m ops.toList (fun σ'=>QN P ops q zf L σ') (Zn ops l) σ):QN P ops q fuel listed σ:=by
 intro ρ ok a w hs Q' Pz hn;subst hl;rw[hf];rw[wai]at hz;refine zw4 YM hL (fun i hi=>by have:=wai.1 HH i (waJ.2 hi);simpa using this) _ _ listed σ ρ ok a w rfl (wdT _ wdo) (fun i=>?_) (fun i hi=>?_) (fun z Kl=>?_) (fun z Kl k hk=>?_) (zm4 hc) XE hs h fun σ' ρ' ok' a' w' hq Js hg=>?_
 .simp[]
 .have:=wai.1 Wk i hi
  simpa using this
 .have:=hz z Kl
  rw[wag]at this;simpa using this.1
 .have:=hz z Kl
  rw[wag,wai]at this;have:=this.2 k hk;rw[wag,way]at this;exact this
 .exact hq ρ' ok' a' w' Js Q' Pz fun σ'' ρ'' ok'' a'' w'' q1 s1 g1=>hn σ'' ρ'' ok'' a'' w'' q1 s1 (hg.trans g1)
end
end Go.Abs
