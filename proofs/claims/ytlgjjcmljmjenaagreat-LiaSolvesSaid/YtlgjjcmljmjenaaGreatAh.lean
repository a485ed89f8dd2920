/- At every input the call answers true and leaves its arguments as they were; no conditions. -/
import Derived.Test.YtlgjjcmljmjenaaGreatAg
set_option linter.unusedSimpArgs false
set_option linter.unusedVariables false
set_option maxRecDepth 100000
namespace Go.Abs
def mvN(b b':Nat)(x:Nat):Nat:=if x=b then b' else x
def St.mv(σ:St)(b b':Nat):St:=⟨σ.n,fun t=>rnA (mvN b b') (σ.s t),fun x=>if x=b' then(σ.H b).map (·.map (rnC (mvN b b')))else if x=b then none else(σ.H x).map (·.map (rnC (mvN b b')))⟩
section
variable {σ:St} {b b':Nat}
@[go_sem] theorem mv_n:(σ.mv b b').n=σ.n:=rfl
@[go_sem] theorem mv_s{t:Nat}:(σ.mv b b').s t=rnA (mvN b b') (σ.s t):=rfl
@[go_sem] theorem mv_H{x:Nat}:(σ.mv b b').H x=if x=b' then(σ.H b).map (·.map (rnC (mvN b b')))else if x=b then none else(σ.H x).map (·.map (rnC (mvN b b'))):=rfl
theorem zc6(hb:σ.H b'=none)(hP:b'<PIN)(hne:b≠b'):GStep σ (σ.mv b b'):=by
 refine zts (mvN b b') rfl (fun x y hx hy e=>?_) (fun x hx=>?_) (fun x cs hx=>?_) (fun x hx=>?_) (fun t=>rfl)
 .have Da:x≠b':=fun e=>hx (e▸hb)
  have hy':y≠b':=fun e=>hy (e▸hb)
  unfold mvN at e;split at e<;>split at e
  .omega
  .exact(hy' e.symm).elim
  .exact(Da e).elim
  .exact e
 .unfold mvN at hx ⊢
  split at hx
  .omega
  .rename_i h;rw[Qb h]
 .have Da:x≠b':=fun e=>by rw[e,hb]at hx;cases hx
  rw[mv_H];unfold mvN;by_cases e:x=b
  .rw[Qc e,Qc rfl,<-e,hx];rfl
  .rw[Qb e,Qb Da,Qb e,hx];rfl
 .rw[mv_H]
  by_cases e:x=b'
  .rw[Qc e]
   cases hH:σ.H b with
   |none=>rfl
   |some cs=>exact(hx b (by rw[hH];simp) (by unfold mvN;rw[Qc rfl,e])).elim
  .rw[Qb e]
   by_cases e2:x=b
   .rw[Qc e2]
   .rw[Qb e2]
    cases hH:σ.H x with
    |none=>rfl
    |some cs=>exact(hx x (by rw[hH];simp) (by unfold mvN;rw[Qb e2])).elim
end
section
variable {α:Type} {φ:Nat->Nat} {b b' x sz len n:Nat} {xs:List α} {f:α->List T}
@[go_sem] theorem mvN_at:mvN b b' x=if x=b then b' else x:=rfl
@[go_sem] theorem rnC_t{t:T}:rnC φ (.t t) = .t t:=rfl
@[go_sem] theorem zDO{o:Nat}:rnC φ (.ptr x o) = .ptr (φ x) o:=rfl
@[go_sem] theorem zDP{o:Nat}:rnC φ (.vec x sz o n) = .vec (φ x) sz o n:=rfl
@[go_sem] theorem zDQ:rnC φ (QX x sz xs)=QX (φ x) sz xs:=by cases xs<;>rfl
@[go_sem] theorem rnC_cv:rnC φ (cvC x n)=cvC (φ x) n:=by unfold cvC;split<;>rfl
@[go_sem] theorem zgY:(Q5 f xs).map (rnC φ)=Q5 f xs:=by unfold Q5;rw[wac];rfl
@[go_sem] theorem zDR{c:C}:rnA φ (.one c) = .one (rnC φ c):=rfl
@[go_sem] theorem zDS{cs:List C}:rnA φ (.agg cs) = .agg (cs.map (rnC φ)):=rfl
@[go_sem] theorem zC2{cs:List T}:rnA φ (.iptr cs) = .iptr cs:=rfl
@[go_sem] theorem zBT:rnA φ undefA=undefA:=rfl
@[go_sem] theorem zC3:rnA φ .junk = .junk:=rfl
@[go_sem] theorem zC4{k:IntKind}{i:Int}:rnA φ (litI k i)=litI k i:=rfl
@[go_sem] theorem zC5{v:Bool}:rnA φ (QO v)=QO v:=rfl
@[go_sem] theorem zDT{o:Option (List C)}:(ZM f xs o).map (fun cs=>cs.map (rnC φ))=ZM f xs (o.map (fun cs=>cs.map (rnC φ))):=by
 cases xs with
 |nil=>rfl
 |cons y ys=>show some ((Q5 f (y::ys)).map (rnC φ))=some (Q5 f (y::ys));rw[zgY]
theorem zg8(h:∀ i,i<n->φ (x+i)=x+i):(rowsC x sz len n).map (rnC φ)=rowsC x sz len n:=by
 unfold rowsC;rw[wac];exact wau fun i hi=>by show C.vec (φ (x+i)) sz 0 len=_;rw[h i (waJ.1 hi)]
end
theorem SR.junk2{b:Nat}{ρ:Nat->Option Nat}{ok:Nat->Prop}{a:Act}{w:World}{σ:St}{cs:List C}(h:SR ρ ok (σ.withH (upd σ.H b (some cs))) a w):SR ρ ok (σ.renew b cs) a w:=by
 refine⟨⟨fun b' cs' hb'=>?_,fun b' hb'=>?_,h.inj,h.okR⟩,h.size,fun t=>?_,h.defers,h.small⟩
 .simp only[zbk]at hb'
  split at hb'
  .rename_i e
   cases hb'
   subst e;exact h.heap b' cs (by show upd σ.H b' (some cs) b'=_;simp[upd])
  .rename_i e
   cases hσ:σ.H b' with
   |none=>rw[hσ]at hb';cases hb'
   |some cs0 =>
    rw[hσ]at hb';cases hb'
    obtain⟨c,arr,el,h1,h2,h3,h4⟩:=h.heap b' cs0 (by show upd σ.H b (some cs) b'=_;simp[upd,e,hσ]);refine⟨c,arr,el,h1,h2,by simpa using h3,fun j hj Yz=>?_⟩;simp only[Qm]at hj;rw[Qq];exact(h4 j hj Yz).junked fun _ _ _ h=>h
 .simp only[zbk]at hb'
  split at hb'
  .cases hb'
  .rename_i e
   refine h.dom b' ?_;show upd σ.H b (some cs) b'=none;simp only[upd,e,if_false];cases hσ:σ.H b' with
   |none=>rfl
   |some _=>rw[hσ]at hb';cases hb'
 .exact(h.slots t).junked fun _ _ _ h=>h
section
variable {P:Program} {m:Nat} {σ:St} {K:AV->St->Prop} {d:Option Nat} {ty:TypeId} {pos:String} {af:Array Edge} {g:Option (Nat×Bool)} {x y:Operand} {t t':TypeId} {bytes:Nat}
theorem zsQ(Wr:QV P t t' 1 bytes){b n dy:Nat}{cs:List C}{c:C}(hx:ev σ.s x = .one (cvC b n))(YL:σ.H b=if n=0 then none else some cs)(YW:cs.length=n)(Rz:cs.map (jC b)=cs)(hc:jC b c=c)(hy:ev σ.s y = .one (.vec dy 1 0 1))(VU:σ.H dy=some [c])
  (hb:(n+1)*bytes<=2^47) (Wn:b<PIN) (SH:dy≠b) (hK:K (.one (cvC b (n+1))) (σ.renew b (cs++[c]))) :
  OpA P m ⟨d,.call { callee:=.builtin .append,args:=#[x,y],argTypes:=#[t,t'] },ty,pos,af,g⟩ σ K:=by
 obtain⟨h1,h2,h3,h4,h5,h6,h7,h8,rfl,We⟩:=Wr;have LU:YC P σ y (tsize P (telem P t)) 1 [c]:=by rw[h8];exact YC.vec hy VU rfl
 have e2:(cvC b (n+1)) = .vec b 1 0 (n+1):=zgm (by omega);rw[e2]at hK;by_cases hn:n=0
 .subst hn
  have Xa:cs=[]:=wbd.1 YW;subst Xa;rw[Qc rfl]at YL;have:=zvI (P:=P) (σ:=σ) (d:=b) (o:=⟨d,.call { callee:=.builtin .append,args:=#[x,y],argTypes:=#[t,t'] },ty,pos,af,g⟩) rfl h1 h2 h3 h4 h5 h6 h7 We hx LU (by decide) (by simpa using hb) YL Wn;rw[h8]at this;refine zhi (σ':=σ.renew b ([]++[c])) (fun ρ ok a w h=>?_) rfl hK;obtain⟨v,w',ρ',ok',k1,k2,k3,k4⟩:=this ρ ok a w h;exact⟨v,w',ρ',ok',k1,k2,SR.junk2 k3,k4⟩
 .rw[zgm hn]at hx
  rw[Qb hn]at YL;have:=zvJ (P:=P) (σ:=σ) (b:=b) (n:=n) (cs:=cs) (o:=⟨d,.call { callee:=.builtin .append,args:=#[x,y],argTypes:=#[t,t'] },ty,pos,af,g⟩) rfl h1 h2 h3 h4 h5 h6 h7 We (by rw[h8];exact hx) YL (by rw[h8,YW,wah]) LU (by simpa using hb) Wn;rw[h8,Rz,waq,waH,hc]at this;exact zhi this rfl hK
end
section
variable {P:Program}
theorem zj0{o:Oper}{σ:St}{t:TypeId}{x:Operand}{f:Nat}(ho:o.op = .fieldAddr t x f)(h1:tok P t=true)(h2:isStructD (tdesc P t)=true)(h3:f<nfields P t)(h4:tok P (fty P t f)=true)
  (h5:0<tsize P (fty P t f)) (h6:zba (ev σ.s x)=true):zht P o σ (zcM (ev σ.s x) (foff P t f)):=by
 intro ρ ok a w h;obtain⟨fs,fd,d1,d2,d3,d4⟩:=zkv h2 h3;obtain⟨c,off,e1,e2⟩:=zkd (Zj h x) h6 (foff P t f);refine⟨_,fun w'=>?_,e2⟩;simp only[execOp,ho,e1];refine Yu ?_;unfold Instr.fieldAt;rw[Sem.run_bind,ZE h1,d1];simp only[Result.andThen,d2];rw[Sem.run_bind];simp only[Instr.sureAddr,Sem.run_pure,Result.andThen];rw[Sem.run_bind];unfold fieldPlace;rw[d4]at h4 h5;rw[Sem.run_bind,zaz h4];simp only[Result.andThen];rw[Qb (by omega)];simp[zcG,d3]
def zja(ops:Array Oper)(listed:Array Bool):Bool:=(List.range ops.size).all fun j=>!(listed.getD j false)||match ops[j]? with|some o=>o.after.toList.all fun e=>!(Region.binds .any e)||listed.getD e.on false|none=>true
theorem zm4{ops:Array Oper}{listed:Array Bool}(h:zja ops listed=true):zjx ops listed:=by
 intro j o ho hl e he hb;unfold zja at h;rw[wai]at h;have hj:j<ops.size:=by
  rcases was j ops.size with h|h
  .exact h
  .simp[h]at ho
 have h1:=h j (waJ.2 hj);rw[hl,ho]at h1;simp only[wcV,wb7]at h1;have h2:=wai.1 h1 e (by simpa using he);rw[hb]at h2;simpa using h2
theorem QN.ord{ops:Array Oper}{q:St->Prop}{fuel:Nat}{listed:Array Bool}{σ:St}(tk:List Nat)(m:Nat)(l:List Nat)(YM:zcP tk m [] ops=true)
  (hl:(List.range ops.size).filter (fun i=>!listed.getD i true)=l) (Wk:l.all (fun i=>!tk.contains i)=true) (hc:zja ops listed=true) (XE:listed.size=ops.size) (hf:l.length<=fuel)
  (h:Yf P m ops.toList q (Zn ops l) σ):QN P ops q fuel listed σ:=by
 intro ρ ok a w hs Q' _ hn;subst hl;refine znE YM fuel _ listed σ ρ ok a w (wdT _ wdo) (fun i=>?_) (fun i hi=>?_) (zm4 hc) XE hf hs (fun _ hp=>Qo hp (by simp)) h hn
 .simp[]
 .have:=wai.1 Wk i hi
  simpa using this
theorem zdG{l:List Oper}{q:St->Prop}{σ:St}(n:Nat)(hn:l.length=n)(h:QN P l.toArray q n (Array.replicate n false) σ):zgK P l.toArray q σ:=.inr (by subst hn;simpa using h)
theorem zha{α:Type}{f:α->List T}{xs:List α}{b:Nat}:(Q5 f xs).map (jC b)=Q5 f xs:=by unfold Q5;rw[wac];rfl
@[go_sem] theorem zDU{α:Type}{f:α->List T}{xs:List α}{o:Option (List C)}{b:Nat}:(ZM f xs o).map (fun cs=>cs.map (jC b))=ZM f xs (o.map (fun cs=>cs.map (jC b))):=by
 cases xs with
 |nil=>rfl
 |cons x xs=>simp only[ZM,wcD,Q5,wac];rfl
end
end Go.Abs
