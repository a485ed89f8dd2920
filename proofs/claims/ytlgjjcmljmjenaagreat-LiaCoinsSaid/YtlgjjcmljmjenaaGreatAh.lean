/- At every input the call answers true and leaves its arguments as they were; no conditions. -/
import Derived.Test.YtlgjjcmljmjenaaGreatAg
set_option linter.unusedSimpArgs false
set_option linter.unusedVariables false
set_option maxRecDepth 100000
namespace Go.Abs
def mvN(b b':Nat)(x:Nat):Nat:=if x=b then b' else x
def St.mv(σ:St)(b b':Nat):St:=⟨σ.n,fun t=>rnA (mvN b b') (σ.s t),fun x=>if x=b' then(σ.H b).map (·.map (rnC (mvN b b')))else if x=b then none else(σ.H x).map (·.map (rnC (mvN b b')))⟩
section
variable {σ:St} {b b':Nat}
@[go_sem] theorem mv_n:(σ.mv b b').n=σ.n:=rfl
@[go_sem] theorem mv_s{t:Nat}:(σ.mv b b').s t=rnA (mvN b b') (σ.s t):=rfl
@[go_sem] theorem mv_H{x:Nat}:(σ.mv b b').H x=if x=b' then(σ.H b).map (·.map (rnC (mvN b b')))else if x=b then none else(σ.H x).map (·.map (rnC (mvN b b'))):=rfl
theorem zdd(hb:σ.H b'=none)(hP:b'<PIN)(hne:b≠b'):GStep σ (σ.mv b b'):=by
 refine ztn (mvN b b') rfl (fun x y hx hy e=>?_) (fun x hx=>?_) (fun x cs hx=>?_) (fun x hx=>?_) (fun t=>rfl)
 .have Dp:x≠b':=fun e=>hx (e▸hb)
  have hy':y≠b':=fun e=>hy (e▸hb)
  unfold mvN at e;split at e<;>split at e
  .omega
  .exact(hy' e.symm).elim
  .exact(Dp e).elim
  .exact e
 .unfold mvN at hx ⊢
  split at hx
  .omega
  .rename_i h;rw[Qb h]
 .have Dp:x≠b':=fun e=>by rw[e,hb]at hx;cases hx
  rw[mv_H];unfold mvN;by_cases e:x=b
  .rw[Qc e,Qc rfl,<-e,hx];rfl
  .rw[Qb e,Qb Dp,Qb e,hx];rfl
 .rw[mv_H]
  by_cases e:x=b'
  .rw[Qc e]
   cases hH:σ.H b with
   |none=>rfl
   |some cs=>exact(hx b (by rw[hH];simp) (by unfold mvN;rw[Qc rfl,e])).elim
  .rw[Qb e]
   by_cases e2:x=b
   .rw[Qc e2]
   .rw[Qb e2]
    cases hH:σ.H x with
    |none=>rfl
    |some cs=>exact(hx x (by rw[hH];simp) (by unfold mvN;rw[Qb e2])).elim
end
section
variable {α:Type} {φ:Nat->Nat} {b b' x sz len n:Nat} {xs:List α} {f:α->List T}
@[go_sem] theorem mvN_at:mvN b b' x=if x=b then b' else x:=rfl
@[go_sem] theorem rnC_t{t:T}:rnC φ (.t t) = .t t:=rfl
@[go_sem] theorem zDL{o:Nat}:rnC φ (.ptr x o) = .ptr (φ x) o:=rfl
@[go_sem] theorem zDM{o:Nat}:rnC φ (.vec x sz o n) = .vec (φ x) sz o n:=rfl
@[go_sem] theorem zDN:rnC φ (QX x sz xs)=QX (φ x) sz xs:=by cases xs<;>rfl
@[go_sem] theorem rnC_cv:rnC φ (cvC x n)=cvC (φ x) n:=by unfold cvC;split<;>rfl
@[go_sem] theorem zg3:(Q5 f xs).map (rnC φ)=Q5 f xs:=by unfold Q5;rw[wah];rfl
@[go_sem] theorem zDO{c:C}:rnA φ (.one c) = .one (rnC φ c):=rfl
@[go_sem] theorem zDP{cs:List C}:rnA φ (.agg cs) = .agg (cs.map (rnC φ)):=rfl
@[go_sem] theorem zCY{cs:List T}:rnA φ (.iptr cs) = .iptr cs:=rfl
@[go_sem] theorem zBP:rnA φ undefA=undefA:=rfl
@[go_sem] theorem zCZ:rnA φ .junk = .junk:=rfl
@[go_sem] theorem zC0{k:IntKind}{i:Int}:rnA φ (litI k i)=litI k i:=rfl
@[go_sem] theorem zC1{v:Bool}:rnA φ (QO v)=QO v:=rfl
@[go_sem] theorem zDQ{o:Option (List C)}:(ZK f xs o).map (fun cs=>cs.map (rnC φ))=ZK f xs (o.map (fun cs=>cs.map (rnC φ))):=by
 cases xs with
 |nil=>rfl
 |cons y ys=>show some ((Q5 f (y::ys)).map (rnC φ))=some (Q5 f (y::ys));rw[zg3]
theorem zhc(h:∀ i,i<n->φ (x+i)=x+i):(rowsC x sz len n).map (rnC φ)=rowsC x sz len n:=by
 unfold rowsC;rw[wah];exact way fun i hi=>by show C.vec (φ (x+i)) sz 0 len=_;rw[h i (wav.1 hi)]
end
theorem SR.junk2{b:Nat}{ρ:Nat->Option Nat}{ok:Nat->Prop}{a:Act}{w:World}{σ:St}{cs:List C}(h:SR ρ ok (σ.withH (upd σ.H b (some cs))) a w):SR ρ ok (σ.renew b cs) a w:=by
 refine⟨⟨fun b' cs' hb'=>?_,fun b' hb'=>?_,h.inj,h.okR⟩,h.size,fun t=>?_,h.defers,h.small⟩
 .simp only[zbl]at hb'
  split at hb'
  .rename_i e
   cases hb'
   subst e;exact h.heap b' cs (by show upd σ.H b' (some cs) b'=_;simp[upd])
  .rename_i e
   cases hσ:σ.H b' with
   |none=>rw[hσ]at hb';cases hb'
   |some cs0 =>
    rw[hσ]at hb';cases hb'
    obtain⟨c,arr,el,h1,h2,h3,h4⟩:=h.heap b' cs0 (by show upd σ.H b (some cs) b'=_;simp[upd,e,hσ]);refine⟨c,arr,el,h1,h2,by simpa using h3,fun j hj Y2=>?_⟩;simp only[Qm]at hj;rw[Qq];exact(h4 j hj Y2).junked fun _ _ _ h=>h
 .simp only[zbl]at hb'
  split at hb'
  .cases hb'
  .rename_i e
   refine h.dom b' ?_;show upd σ.H b (some cs) b'=none;simp only[upd,e,if_false];cases hσ:σ.H b' with
   |none=>rfl
   |some _=>rw[hσ]at hb';cases hb'
 .exact(h.slots t).junked fun _ _ _ h=>h
section
variable {P:Program} {m:Nat} {σ:St} {K:AV->St->Prop} {d:Option Nat} {ty:TypeId} {pos:String} {af:Array Edge} {g:Option (Nat×Bool)} {x y:Operand} {t t':TypeId} {bytes:Nat}
theorem zsP(Wx:QW P t t' 1 bytes){b n dy:Nat}{cs:List C}{c:C}(hx:ev σ.s x = .one (cvC b n))(YN:σ.H b=if n=0 then none else some cs)(Xo:cs.length=n)(RP:cs.map (jC b)=cs)(hc:jC b c=c)(hy:ev σ.s y = .one (.vec dy 1 0 1))(VS:σ.H dy=some [c])
  (hb:(n+1)*bytes<=2^47) (Wr:b<PIN) (SK:dy≠b) (hK:K (.one (cvC b (n+1))) (σ.renew b (cs++[c]))) :
  OpA P m ⟨d,.call { callee:=.builtin .append,args:=#[x,y],argTypes:=#[t,t'] },ty,pos,af,g⟩ σ K:=by
 obtain⟨h1,h2,h3,h4,h5,h6,h7,h8,rfl,Wh⟩:=Wx;have Mf:YC P σ y (tsize P (telem P t)) 1 [c]:=by rw[h8];exact YC.vec hy VS rfl
 have e2:(cvC b (n+1)) = .vec b 1 0 (n+1):=zgv (by omega);rw[e2]at hK;by_cases hn:n=0
 .subst hn
  have Xf:cs=[]:=wbd.1 Xo;subst Xf;rw[Qc rfl]at YN;have:=zvv (P:=P) (σ:=σ) (d:=b) (o:=⟨d,.call { callee:=.builtin .append,args:=#[x,y],argTypes:=#[t,t'] },ty,pos,af,g⟩) rfl h1 h2 h3 h4 h5 h6 h7 Wh hx Mf (by decide) (by simpa using hb) YN Wr;rw[h8]at this;refine zhr (σ':=σ.renew b ([]++[c])) (fun ρ ok a w h=>?_) rfl hK;obtain⟨v,w',ρ',ok',k1,k2,k3,k4⟩:=this ρ ok a w h;exact⟨v,w',ρ',ok',k1,k2,SR.junk2 k3,k4⟩
 .rw[zgv hn]at hx
  rw[Qb hn]at YN;have:=zvw (P:=P) (σ:=σ) (b:=b) (n:=n) (cs:=cs) (o:=⟨d,.call { callee:=.builtin .append,args:=#[x,y],argTypes:=#[t,t'] },ty,pos,af,g⟩) rfl h1 h2 h3 h4 h5 h6 h7 Wh (by rw[h8];exact hx) YN (by rw[h8,Xo,wai]) Mf (by simpa using hb) Wr;rw[h8,RP,wat,waL,hc]at this;exact zhr this rfl hK
end
section
variable {P:Program}
theorem zkc{o:Oper}{σ:St}{t:TypeId}{x:Operand}{f:Nat}(ho:o.op = .fieldAddr t x f)(h1:tok P t=true)(h2:isStructD (tdesc P t)=true)(h3:f<nfields P t)(h4:tok P (fty P t f)=true)
  (h5:0<tsize P (fty P t f)) (h6:zbc (ev σ.s x)=true):zhD P o σ (zcS (ev σ.s x) (foff P t f)):=by
 intro ρ ok a w h;obtain⟨fs,fd,d1,d2,d3,d4⟩:=zkI h2 h3;obtain⟨c,off,e1,e2⟩:=zkp (Zm h x) h6 (foff P t f);refine⟨_,fun w'=>?_,e2⟩;simp only[execOp,ho,e1];refine Yx ?_;unfold Instr.fieldAt;rw[Sem.run_bind,ZE h1,d1];simp only[Result.andThen,d2];rw[Sem.run_bind];simp only[Instr.sureAddr,Sem.run_pure,Result.andThen];rw[Sem.run_bind];unfold fieldPlace;rw[d4]at h4 h5;rw[Sem.run_bind,zaB h4];simp only[Result.andThen];rw[Qb (by omega)];simp[zcK,d3]
def zjk(ops:Array Oper)(listed:Array Bool):Bool:=(List.range ops.size).all fun j=>!(listed.getD j false)||match ops[j]? with|some o=>o.after.toList.all fun e=>!(Region.binds .any e)||listed.getD e.on false|none=>true
theorem zne{ops:Array Oper}{listed:Array Bool}(h:zjk ops listed=true):zjL ops listed:=by
 intro j o ho hl e he hb;unfold zjk at h;rw[wac]at h;have hj:j<ops.size:=by
  rcases wau j ops.size with h|h
  .exact h
  .simp[h]at ho
 have h1:=h j (wav.2 hj);rw[hl,ho]at h1;simp only[wc0,wcb]at h1;have h2:=wac.1 h1 e (by simpa using he);rw[hb]at h2;simpa using h2
theorem QK.ord{ops:Array Oper}{q:St->Prop}{fuel:Nat}{listed:Array Bool}{σ:St}(tk:List Nat)(m:Nat)(l:List Nat)(YO:zcV tk m [] ops=true)
  (hl:(List.range ops.size).filter (fun i=>!listed.getD i true)=l) (Wp:l.all (fun i=>!tk.contains i)=true) (hc:zjk ops listed=true) (XF:listed.size=ops.size) (hf:l.length<=fuel)
  (h:Ye P m ops.toList q (Zq ops l) σ):QK P ops q fuel listed σ:=by
 intro ρ ok a w hs Q' _ hn;subst hl;refine znP YO fuel _ listed σ ρ ok a w (wdZ _ wdu) (fun i=>?_) (fun i hi=>?_) (zne hc) XF hf hs (fun _ hp=>Qn hp (by simp)) h hn
 .simp[]
 .have:=wac.1 Wp i hi
  simpa using this
theorem zde{l:List Oper}{q:St->Prop}{σ:St}(n:Nat)(hn:l.length=n)(h:QK P l.toArray q n (Array.replicate n false) σ):zfU P l.toArray q σ:=.inr (by subst hn;simpa using h)
theorem zhe{α:Type}{f:α->List T}{xs:List α}{b:Nat}:(Q5 f xs).map (jC b)=Q5 f xs:=by unfold Q5;rw[wah];rfl
@[go_sem] theorem zDR{α:Type}{f:α->List T}{xs:List α}{o:Option (List C)}{b:Nat}:(ZK f xs o).map (fun cs=>cs.map (jC b))=ZK f xs (o.map (fun cs=>cs.map (jC b))):=by
 cases xs with
 |nil=>rfl
 |cons x xs=>simp only[ZK,wcG,Q5,wah];rfl
end
end Go.Abs
