/- At every input the call answers true and leaves its arguments as they were; no conditions. -/
import Derived.Test.YtlgjjcmljmjenaaGreatAa
set_option linter.unusedSimpArgs false
set_option linter.unusedVariables false
set_option maxRecDepth 100000
namespace Go.Abs
section
variable {P:Program} {o:Oper} {σ:St} {ρ:Nat->Option Nat} {ok:Nat->Prop} {a:Act} {w:World}
theorem RA.vec_inv{b sz off len:Nat}{v:Value}(h:RA w ok ρ (.one (.vec b sz off len)) v) :
  ∃ c cap n,ρ b=some c/\v = .slice (some ⟨c,off,none⟩) len cap/\len<=cap/\zlG w c n/\off+cap*sz<=n:=by
 cases h with|one h=>cases h with|vec h1 h2 h3 h4=>exact⟨_,_,_,h1,rfl,h2,h3,h4⟩
theorem zvw{cs:List T}{v:Value}(h:RA w ok ρ (.iptr cs) v):∃ blk off,∃ u:Nat->Value,v = .pointer (some ⟨blk,off,none⟩)/\ok blk /\
  (∀ j,j<cs.length->w.cell? ⟨blk,off+j,none⟩=some (u j))/\(∀ j (h:j<cs.length),RT w ok cs[j] (u j)):=by
 cases h with|iptr h1 h2 h3=>exact⟨_,_,_,rfl,h1,h2,h3⟩
theorem zkd{x:AV}{v:Value}(h:RA w ok ρ x v)(hx:zba x=true)(k:Nat):∃ c off,v = .pointer (some ⟨c,off,none⟩)/\RA w ok ρ (zcM x k) (.pointer (some ⟨c,off+k,none⟩)):=by
 unfold zba at hx;split at hx
 .obtain⟨c,h1,rfl⟩:=h.ptr_inv
  exact⟨c,_,rfl,.one (.ptr h1)⟩
 .obtain⟨blk,off,u,rfl,h1,h2,h3⟩:=zvw h
  refine⟨blk,off,rfl,.iptr (u:=fun j=>u (k+j)) h1 (fun j hj=>?_) (fun j hj=>?_)⟩
  .simp at hj;have:=h2 (k+j) (by omega);rwa[wbg]
  .simp at hj;simpa using h3 (k+j) (by omega)
 .cases hx
theorem zib{d n:Nat}{x:Option Operand}(h:SR ρ ok σ a w)(hn:zau d (x.map (ev σ.s))=some n):(x=none/\n=d)\/∃ y k,x=some y/\a.eval y = .int k n:=by
 cases x with
 |none=>simp[zau]at hn;exact .inl ⟨rfl,hn.symm⟩
 |some y =>
  refine .inr ⟨y,?_⟩;simp only[wcD,zau]at hn;split at hn
  .rename_i k m hm
   split at hn
   .cases hn
    have:=(Zj h y).intOf hm;refine⟨k,rfl,?_⟩;rw[this,wd6 ‹_›]
   .cases hn
  .cases hn
theorem zrK{n c l hh:Nat}{lo hi:Option Operand}(h:SR ρ ok σ a w)(hl:zau 0 (lo.map (ev σ.s))=some l)(VX:zau n (hi.map (ev σ.s))=some hh)(h1:l<=hh)(h2:hh<=n)(h3:n<=c) :
  (Instr.sliceBounds true n c (lo.map a.eval) (hi.map a.eval) none).run P w = .ok (l,hh,c) w:=by
 unfold Instr.sliceBounds;rcases zib h hl with⟨rfl,rfl⟩|⟨y,k,rfl,hy⟩<;>rcases zib h VX with⟨rfl,rfl⟩|⟨y',k',rfl,hy'⟩ <;>
  simp[Sem.run_pure,Instr.sliceBound,asIntOf,show hh<=c from by omega, *]
theorem zvx(h:SR ρ ok σ a w){t:TypeId}{x:Operand}{lo hi:Option Operand}(ho:o.op = .slice t x lo hi none)(h1:tok P t=true)(h2:isSliceD (tdesc P t)=true)(h3:tok P (telem P t)=true)
  (h4:zhj (tsize P (telem P t)) (ev σ.s x)) {n l hh:Nat} (hn:(ev σ.s x).lenOf=some n) (hl:zau 0 (lo.map (ev σ.s))=some l) (VX:zau n (hi.map (ev σ.s))=some hh) (h5:l<=hh) (h6:hh<=n)
  (h7:match ev σ.s x with|.one (.vec _ _ _ _)=>l=0\/l<hh|_=>True) :
  ZZ P o σ (zcN (tsize P (telem P t)) (ev σ.s x) l hh) σ.H ρ ok a w:=by
 have Y3:=Zj h x
 suffices hs:∃ A c,a.eval x = .slice A n c/\n<=c/\RA w ok ρ (zcN (tsize P (telem P t)) (ev σ.s x) l hh) (.slice (if c=l then A else A.map (·.add (l*tsize P (telem P t)))) (hh-l) (c-l)) by
  obtain⟨A,c,e1,e2,e3⟩:=hs;refine .value h ?_ e3;simp only[execOp,ho,e1];refine Yu ?_;unfold Instr.sliceAt;rw[Sem.run_bind,ZE h1,zaK h2];simp only[Result.andThen];unfold Instr.slice;rw[Sem.run_bind,ZE h1,zaK h2];simp only[Result.andThen,wdV];rw[Sem.run_bind,zrK h hl VX h5 h6 e2];simp only[Result.andThen];rw[Sem.run_bind,zaz h3];rfl
 generalize a.eval x=vx at *
 generalize ev σ.s x=ax at *
 unfold AV.lenOf at hn;split at hn
 .rename_i nl xs
  cases hn
  obtain⟨A,c,sz,blk,off,u,rfl,g2,g0,g3,g4,g5,g6,g7,g8⟩:=Y3.seq_inv2;refine⟨A,c,rfl,g2,?_⟩;have Y0:((xs.take hh).drop l).length=hh-l:=by simp;omega
  refine .one (.t (.seq (sz:=sz) (blk:=blk) (off:=off+l*sz) (u:=fun i j=>u (l+i) j) Y0.symm (by omega) (fun e=>by
   have hA:A=none:=by
    split at e
    .exact e
    .simpa using e
   have:=g0 hA;omega) (fun e=>by rw[g3 e];split<;>rfl) (fun e=>?_) (fun y hy=>g5 y (waQ (wd7 hy))) (fun hne=>?_) (fun i hi j hj=>?_) (fun i hi j hj=>?_)))
  .split
   .exact g4 e
   .intro e2;simp at e2;exact g4 e e2
  .have YQ:0<hh-l:=by rw[<-Y0];exact wa6.2 hne
   have Ke:xs≠[]:=by intro e;subst e;simp at Y0;omega
   obtain⟨k1,k2⟩:=g6 Ke;refine⟨?_,k2⟩;have Ws:sz=tsize P (telem P t):=by
    cases xs with
    |nil=>exact Qo rfl Ke
    |cons y ys=>rw[<-g5 y (by simp),<-h4 y (by simp)]
   rw[Qb (by omega),k1,<-Ws];simp[zcG]
  .rw[Y0]at hi
   have XS:l+i<xs.length:=by omega
   have e:((xs.take hh).drop l)[i]'(by rw[Y0];exact hi)=xs[l+i]:=by simp
   rw[e]at hj;have:=g7 (l+i) XS j hj;rw[show off+l*sz+(i*sz+j)=off+((l+i)*sz+j) by rw[war];omega];exact this
  .rw[Y0]at hi
   have XS:l+i<xs.length:=by omega
   have e:((xs.take hh).drop l)[i]'(by rw[Y0];exact hi)=xs[l+i]:=by simp
   have X1:j<xs[l+i].length:=by rw[<-e];exact hj
   have:=g8 (l+i) XS j X1;simpa[e]using this
 .rename_i b s off m
  cases hn
  obtain⟨c,cap,n0,k1,rfl,k2,k3,k4⟩:=Y3.vec_inv;refine⟨some ⟨c,off,none⟩,cap,rfl,k2,?_⟩;have hs:s=tsize P (telem P t):=h4;subst hs;have e:(if cap=l then some (⟨c,off,none⟩:Addr)else(some (⟨c,off,none⟩:Addr)).map (·.add (l*tsize P (telem P t))))=some ⟨c,off+l*tsize P (telem P t),none⟩:=by
   split
   .rename_i e
    have KI:l=0:=by
     rcases h7 with h7|h7;· exact h7
     .omega
    subst KI;simp
   .simp[zcG]
  rw[e];refine .one (.vec k1 (by omega) k3 ?_);have:(cap-l)*tsize P (telem P t)+l*tsize P (telem P t)<=cap*tsize P (telem P t):=by
   rw[<-war];exact wak _ (by omega)
  omega
 .exact h4.elim
 .cases hn
theorem zsk(h:SR ρ ok σ a w){t:TypeId}{x:Operand}{lo hi:Option Operand}(ho:o.op = .slice t x lo hi none)(h1:tok P t=true)(h2:tdesc P t = .string){s:ByteArray}(hx:ev σ.s x = .one (.t (.lit (.string s))))
  {l hh:Nat} (hl:zau 0 (lo.map (ev σ.s))=some l) (VX:zau s.size (hi.map (ev σ.s))=some hh) (h5:l<=hh) (h6:hh<=s.size) :
  ZZ P o σ (zcN (tsize P (telem P t)) (ev σ.s x) l hh) σ.H ρ ok a w:=by
 have Y3:=Zj h x;rw[hx]at Y3 ⊢;have e1:a.eval x = .string s:=by generalize a.eval x=q at Y3;cases Y3 with|one Y3=>cases Y3 with|t Y3=>cases Y3 with|lit _=>rfl
 refine .value (v:=.string (s.extract l hh)) h ?_ (.one (.t (.lit rfl)));simp only[execOp,ho,e1];refine Yu ?_;unfold Instr.sliceAt;rw[Sem.run_bind,ZE h1,h2];simp only[Result.andThen];unfold Instr.slice;rw[Sem.run_bind,ZE h1,h2];simp only[Result.andThen,wdV,Option.isSome_none,wa4,if_false];have hb:(Instr.sliceBounds false s.size s.size (lo.map a.eval) (hi.map a.eval) none).run P w = .ok (l,hh,s.size) w:=by
  unfold Instr.sliceBounds;rcases zib h hl with⟨rfl,rfl⟩|⟨y,k,rfl,hy⟩<;>rcases zib h VX with⟨rfl,rfl⟩|⟨y',k',rfl,hy'⟩ <;>
   simp[Sem.run_pure,Instr.sliceBound,asIntOf, *]
 rw[Sem.run_bind,hb];rfl
theorem zkv{t:TypeId}(h:isStructD (tdesc P t)=true){f:Nat}(hf:f<nfields P t):∃ fs fd,tdesc P t = .struct fs/\fs[f]? = some fd/\foff P t f=fd.offset/\fty P t f=fd.type:=by
 cases hd:tdesc P t<;>simp[isStructD,hd]at h
 rename_i fs;simp only[nfields,zgi,hd]at hf;have HI:f<fs.size:=by simpa using hf
 refine⟨fs,fs[f],rfl,by simp[HI],?_,?_⟩
 .simp[foff,zgi,hd,HI]
 .simp[fty,zgi,hd,HI]
theorem zr2(h:SR ρ ok σ a w){t:TypeId}{x:Operand}{f:Nat}(ho:o.op = .fieldAddr t x f)(h1:tok P t=true)(h2:isStructD (tdesc P t)=true)(h3:f<nfields P t)(h4:tok P (fty P t f)=true)
  (h5:0<tsize P (fty P t f)) (h6:zba (ev σ.s x)=true):ZZ P o σ (zcM (ev σ.s x) (foff P t f)) σ.H ρ ok a w:=by
 obtain⟨fs,fd,d1,d2,d3,d4⟩:=zkv h2 h3;obtain⟨c,off,e1,e2⟩:=zkd (Zj h x) h6 (foff P t f);refine .value h ?_ e2;simp only[execOp,ho,e1];refine Yu ?_;unfold Instr.fieldAt;rw[Sem.run_bind,ZE h1,d1];simp only[Result.andThen,d2];rw[Sem.run_bind];simp only[Instr.sureAddr,Sem.run_pure,Result.andThen];rw[Sem.run_bind];unfold fieldPlace;rw[d4]at h4 h5;rw[Sem.run_bind,zaz h4];simp only[Result.andThen];rw[Qb (by omega)];simp[zcG,d3]
theorem zoA{t:TypeId}(h1:tok P t=true){cs:List C}{vs:Array Value}(hs:vs.size=cs.length)(hr:∀ j (h:j<cs.length) (h':j<vs.size),RC w ok ρ cs[j] vs[j]){off:Nat}(h2:(if tagg P t then off+tsize P t else off+1)<=cs.length) :
  ∃ v,(part t vs off).run P w = .ok v w/\RA w ok ρ (if tagg P t then .agg ((cs.drop off).take (tsize P t))else .one ((cs.drop off).headD default)) v:=by
 unfold part;rw[Sem.run_bind,zno h1];simp only[Result.andThen];cases hg:tagg P t with
 |true =>
  simp only[hg,if_true]at h2 ⊢;refine⟨_,by rw[Sem.run_bind,zaz h1];rfl,.agg (by simp;omega) fun j hj Yz=>?_⟩;simp at hj Yz;simpa using hr (off+j) (by omega) (by omega)
 |false =>
  simp only[hg,wa4,if_false]at h2 ⊢;have hv:vs[off]? = some (vs[off]'(by omega)):=by simp
  refine⟨vs[off]'(by omega),by simp[hv],.one ?_⟩;have e:(cs.drop off).headD default=cs[off]:=by
   rw[List.headD_eq_head?_getD,List.head?_drop,waa (by omega)];rfl
  rw[e];exact hr off (by omega) (by omega)
theorem zvy(h:SR ρ ok σ a w){t:TypeId}{x:Operand}{f:Nat}(ho:o.op = .field t x f)(h1:tok P t=true)(h2:isStructD (tdesc P t)=true)(h3:f<nfields P t)(h4:tok P (fty P t f)=true)
  {cs:List C} (hx:ev σ.s x = .agg cs) (h5:(if tagg P (fty P t f)then foff P t f+tsize P (fty P t f)else foff P t f+1)<=cs.length) :
  ZZ P o σ (if tagg P (fty P t f)then .agg ((cs.drop (foff P t f)).take (tsize P (fty P t f)))else .one ((cs.drop (foff P t f)).headD default)) σ.H ρ ok a w:=by
 obtain⟨fs,fd,d1,d2,d3,d4⟩:=zkv h2 h3;have Y3:=Zj h x;rw[hx]at Y3;generalize Wm:a.eval x=vx at Y3;cases Y3 with
 |agg g1 g2 =>
  obtain⟨v,r1,r2⟩:=zoA (P:=P) h4 g1 g2 h5;refine .value h ?_ r2;simp only[execOp,ho,Wm];refine Yu ?_;unfold Instr.field;rw[Sem.run_bind,ZE h1,d1];simp only[Result.andThen,d2,asAgg];rw[Sem.run_bind];simp only[Sem.run_pure,Result.andThen];rw[<-d4,<-d3];exact r1
theorem zgO{x:AV}{v:Value}(hx:RA w ok ρ x v){n:Nat}(h:zaC x n):∃ k,v = .int k (idx x:Nat)/\idx x<n:=by
 unfold zaC at h;split at h
 .rename_i k i hi
  refine⟨k,?_,by simp[idx,hi];omega⟩;rw[hx.intOf hi];simp only[idx,hi];rw[wd6 h.1]
 .exact h.elim
theorem zr3(h:SR ρ ok σ a w){t:TypeId}{x y:Operand}(ho:o.op = .indexAddr t x y)(h1:tok P t=true)(h2:isSliceD (tdesc P t)=true)(h3:tok P (telem P t)=true)
  (h4:zdW (tsize P (telem P t)) (ev σ.s x) (idx (ev σ.s y))) {n:Nat} (hn:(ev σ.s x).lenOf=some n) (h5:zaC (ev σ.s y) n) :
  ZZ P o σ (zcA (tsize P (telem P t)) (ev σ.s x) (idx (ev σ.s y))) σ.H ρ ok a w:=by
 obtain⟨k,hy,Yw⟩:=zgO (Zj h y) h5;have Y3:=Zj h x;generalize hi:idx (ev σ.s y)=i at *
 suffices hs:∃ c off cap,a.eval x = .slice (some ⟨c,off,none⟩) n cap/\RA w ok ρ (zcA (tsize P (telem P t)) (ev σ.s x) i) (.pointer (some ⟨c,off+i*tsize P (telem P t),none⟩)) by
  obtain⟨c,off,cap,e1,e2⟩:=hs;refine .value h ?_ e2;simp only[execOp,ho,e1,hy];refine Yu ?_;unfold Instr.indexAt;simp only[asIntOf,Sem.run_bind,Sem.run_pure,Result.andThen,ZE h1,zaK h2];rw[Qc (by omega)];rw[Sem.run_bind,zaz h3];simp[Result.andThen,zcG]
 generalize a.eval x=vx at *
 generalize ev σ.s x=ax at *
 unfold AV.lenOf at hn;split at hn
 .rename_i nl xs
  cases hn
  obtain⟨A,c,sz,blk,off,u,rfl,g2,g0,g3,g4,g5,g6,g7,g8⟩:=Y3.seq_inv2;have Ke:xs≠[]:=by intro e;subst e;simp at Yw
  obtain⟨k1,k2⟩:=g6 Ke;have Ws:sz=tsize P (telem P t):=by
   cases xs with
   |nil=>exact Qo rfl Ke
   |cons y ys=>rw[<-g5 y (by simp),<-h4 y (by simp)]
  subst Ws;subst k1;refine⟨blk,off,c,rfl,?_⟩;have e:xs.getD i []=xs[i]:=by simp[Yw]
  simp only[zcA,e];refine .iptr (u:=u i) k2 (fun j hj=>?_) (fun j hj=>g8 i Yw j hj);rw[wbg];exact g7 i Yw j hj
 .rename_i b s off m
  cases hn
  obtain⟨c,cap,n0,k1,rfl,k2,k3,k4⟩:=Y3.vec_inv;have hs:s=tsize P (telem P t):=h4;subst hs;exact⟨c,off,cap,rfl,.one (.ptr k1)⟩
 .exact h4.elim
 .cases hn
theorem zlR{t:TypeId}(h:isArrayD (tdesc P t)=true):tdesc P t = .array (arrLen (tdesc P t)) (telem P t):=by
 cases hd:tdesc P t<;>simp[isArrayD,hd]at h
 simp[telem,hd,arrLen]
theorem zsl(h:SR ρ ok σ a w){t:TypeId}{x y:Operand}(ho:o.op = .indexAddr t x y)(h1:tok P t=true)(h2:isArrayD (tdesc P t)=true)(h3:tok P (telem P t)=true)
  (h4:zba (ev σ.s x)=true) (h5:zaC (ev σ.s y) (arrLen (tdesc P t))) :
  ZZ P o σ (zcM (ev σ.s x) (idx (ev σ.s y)*tsize P (telem P t))) σ.H ρ ok a w:=by
 obtain⟨k,hy,Yw⟩:=zgO (Zj h y) h5;obtain⟨c,off,e1,e2⟩:=zkd (Zj h x) h4 (idx (ev σ.s y)*tsize P (telem P t));refine .value h ?_ e2;simp only[execOp,ho,e1,hy];refine Yu ?_;unfold Instr.indexAt;have hd:=zlR h2;simp only[asIntOf,Sem.run_bind,Sem.run_pure,Result.andThen,ZE h1];rw[hd];simp only[Instr.sureAddr,Sem.run_bind,Sem.run_pure,Result.andThen,ZE h1];rw[Qc (by omega)];rw[Sem.run_bind,zaz h3];simp[Result.andThen,zcG]
theorem zvz(h:SR ρ ok σ a w){t:TypeId}{x y:Operand}(ho:o.op = .index t x y)(h1:tok P t=true)(h2:isArrayD (tdesc P t)=true)(h3:tok P (telem P t)=true)
  (h4:zaC (ev σ.s y) (arrLen (tdesc P t))) {cs:List C} (hx:ev σ.s x = .agg cs)
  (h5:idx (ev σ.s y)*tsize P (telem P t)+(if tagg P (telem P t)then tsize P (telem P t)else 1)<=cs.length) :
  ZZ P o σ (if tagg P (telem P t)then .agg ((cs.drop (idx (ev σ.s y)*tsize P (telem P t))).take (tsize P (telem P t)))else .one ((cs.drop (idx (ev σ.s y)*tsize P (telem P t))).headD default)) σ.H ρ ok a w:=by
 obtain⟨k,hy,Yw⟩:=zgO (Zj h y) h4;have Y3:=Zj h x;rw[hx]at Y3;generalize Wm:a.eval x=vx at Y3;cases Y3 with
 |agg g1 g2 =>
  obtain⟨v,r1,r2⟩:=zoA (P:=P) h3 g1 g2 (off:=idx (ev σ.s y)*tsize P (telem P t)) (by split at h5<;>simp_all);refine .value h ?_ r2;simp only[execOp,ho,Wm,hy];refine Yu ?_;unfold Instr.index;have hd:=zlR h2;simp only[asIntOf,Sem.run_bind,Sem.run_pure,Result.andThen,ZE h1];rw[hd];simp only[];rw[Qc (by omega)];rw[Sem.run_bind,zaz h3];simp only[Result.andThen,wbD];exact r1
theorem zsm(h:SR ρ ok σ a w){t:TypeId}{x y:Operand}(ho:o.op = .index t x y)(h1:tok P t=true)(h2:tdesc P t = .string){s:ByteArray}(hx:ev σ.s x = .one (.t (.lit (.string s))))(h4:zaC (ev σ.s y) s.size) :
  ZZ P o σ (litI .u8 (s[idx (ev σ.s y)]!).toNat) σ.H ρ ok a w:=by
 obtain⟨k,hy,Yw⟩:=zgO (Zj h y) h4;have Y3:=Zj h x;rw[hx]at Y3;generalize Wm:a.eval x=vx at Y3;cases Y3 with|one Y3=>cases Y3 with|t Y3=>cases Y3 with|lit _ =>
 refine .value h (v:=.int .u8 (s[idx (ev σ.s y)]!).toNat) ?_ (.one (.t (.lit rfl)));simp only[execOp,ho,Wm,hy];refine Yu ?_;unfold Instr.index;simp only[asIntOf,Sem.run_bind,Sem.run_pure,Result.andThen,ZE h1,h2];rw[Qc (by omega)];have e:s[idx (ev σ.s y)]? = some (s[idx (ev σ.s y)]'Yw):=by
  exact getElem?_pos s _ Yw
 have e2:s[idx (ev σ.s y)]! = s[idx (ev σ.s y)]'Yw:=getElem!_pos s _ Yw;simp only[wbD,e,e2];rfl
end
section
variable {P:Program} {o:Oper} {σ:St} {ρ:Nat->Option Nat} {ok:Nat->Prop} {a:Act} {w:World}
theorem zsz{t:TypeId}{x:AV}(h:zcj P t x):((isSliceD (tdesc P t)=true/\∀ v,x≠.one (.t (.lit v)))/\x.lenOf.isSome=true)\/(tdesc P t = .string/\∃ s,x = .one (.t (.lit (.string s)))):=by
 cases x with
 |one c =>
  cases c with
  |t x =>
   cases x with
   |lit v=>cases v<;>first|exact .inr ⟨h,_,rfl⟩|exact h.elim
   |seq nl xs=>exact .inl ⟨⟨h.1,fun v e=>(by cases e)⟩,h.2⟩
   |junk=>exact .inl ⟨⟨h.1,fun v e=>(by cases e)⟩,h.2⟩
   |clo=>exact .inl ⟨⟨h.1,fun v e=>(by cases e)⟩,h.2⟩
  |_=>exact .inl ⟨⟨h.1,fun v e=>(by cases e)⟩,h.2⟩
 |_=>exact .inl ⟨⟨h.1,fun v e=>(by cases e)⟩,h.2⟩
theorem zxO(h:SR ρ ok σ a w){args:Array Operand}{ats:Array TypeId}(ho:o.op = .call { callee:=.builtin .min,args:=args,argTypes:=ats })(h1:zhQ (args.toList.map (ev σ.s))) :
  ZZ P o σ (zh5 (args.toList.map (ev σ.s))) σ.H ρ ok a w:=by
 obtain⟨l⟩:=args
 match l,h1 with
 |[x,y],h1 =>
  have hx:=Zj h x;have hy:=Zj h y;simp only[waq,waH,zhQ]at h1;simp only[waq,waH,zh5];have inv:∀ {z:AV} {k:IntKind} {n:Int} {v:Value},z.intOf=some (k,n)->RA w ok ρ z v->v = .int k n:=fun {z k n v} hz hr=>by
   unfold AV.intOf at hz;split at hz
   .cases hz
    cases hr with
    |one hr=>cases hr with|t hr=>cases hr;rfl
   .cases hz
  split at h1
  .rename_i k a0 k' b0 e1 e2
   subst h1;have v1:=inv e1 hx;have v2:=inv e2 hy;refine .value h (v:=.int k (if b0<a0 then b0 else a0)) ?_ (.one (.t (.lit rfl)));simp only[execOp,ho,resolve,Sem.run_bind,Sem.run_pure,Result.andThen,wcO,waq,waH,v1,v2];rfl
  .exact h1.elim
theorem zxP(h:SR ρ ok σ a w){args:Array Operand}{ats:Array TypeId}(ho:o.op = .call { callee:=.builtin .len,args:=args,argTypes:=ats }){x:Operand}{t:TypeId}(ha:args.size=1)(hx:args[0]? = some x)(ht:ats[0]? = some t)
  (h1:tok P t=true) (h2:zcj P t (ev σ.s x)) :
  ZZ P o σ (litI .i64 (((ev σ.s x).lenOf).getD 0:Nat)) σ.H ρ ok a w:=by
 have h2:=zsz h2;have Y3:=Zj h x;have YB:args=#[x]:=by
  have h0:0<args.size:=by omega
  apply Array.ext
  .simp[ha]
  .intro i hi Y6
   have:i=0:=by omega
   subst this;rw[waW h0]at hx;simpa using hx
 refine .value h (v:=.int .i64 (((ev σ.s x).lenOf).getD 0:Nat)) ?_ (.one (.t (.lit rfl)));simp only[execOp,ho,resolve,Sem.run_bind,Sem.run_pure,Result.andThen,YB];unfold invoke builtin;simp only[];refine Yu ?_;unfold Builtin.len_;simp only[ht,wcO,waq,waH,wa2,wa3];rw[Sem.run_bind,ZE h1];simp only[Result.andThen];generalize a.eval x=vx at *
 generalize ev σ.s x=ax at *
 rcases h2 with⟨⟨h2,h4⟩,h3⟩|⟨h2,h3⟩
 .rw[zaK h2]
  obtain⟨n,hn⟩:=wba.1 h3;rw[hn];unfold AV.lenOf at hn;split at hn
  .cases hn
   obtain⟨A,c,rfl,_⟩:=Y3.seq_inv;rfl
  .cases hn
   obtain⟨c,cap,n0,k1,rfl,k2,k3,k4⟩:=Y3.vec_inv;rfl
  .exact Qo rfl (h4 _)
  .cases hn
 .rw[h2]
  obtain⟨s,rfl⟩:=h3;cases Y3 with|one Y3=>cases Y3 with|t Y3=>cases Y3 with|lit _ =>
  rfl
theorem zrX(h:SR ρ ok σ a w){d:Nat}(XD:d<PIN)(hs:Zh o.op=true)(YA:Zl P d (ev σ.s) σ.H o.op) :
  ZZ P o σ (opV P d (ev σ.s) σ.H o.op) (opH P d (ev σ.s) σ.H o.op) ρ ok a w:=by
 generalize ho:o.op=op at *
 cases op with
 |move x=>exact zp4 h (.inl ho)
 |assign x=>exact zp4 h (.inr ho)
 |pick c x y=>exact zxm h ho YA
 |alloc t=>exact zvP h ho YA.1 YA.2.1 YA.2.2 XD
 |box t x=>exact zyE h ho YA.1 YA.2 XD
 |build t parts=>exact zvD h ho YA.1 YA.2.1 YA.2.2
 |buildSlice t n parts =>
  obtain⟨h1,h2,h3,h4,h5,h6,h7⟩:=YA;exact zmy h ho h1 h2 h3 h4 h5 h6 h7
 |load t x=>exact zxn h ho YA.1 YA.2.1 YA.2.2
 |store t x y =>
  obtain⟨h1,h2⟩:=YA;split at h2
  .rename_i b off hx
   split at h2
   .rename_i cs ns hb hy
    have:=zvQ h ho h1 hx hb hy h2.1 h2.2;simpa[opV,opH,hx,hb,hy]using this
   .exact h2.elim
  .exact h2.elim
 |nilCheck x=>exact zsq h ho YA
 |binOp op t x y t'=>exact zuE h ho YA.1 YA.2.1 YA.2.2
 |unOp op t x=>exact zwt h ho YA
 |convert s t x=>exact zsC h ho YA.1 YA.2.1 YA.2.2
 |makeSlice t l c =>
  obtain⟨h1,h2,h3,h4,h5,h6,h7,h8⟩:=YA;split at h8
  .rename_i k n k' m hl hc
   have:=zr6 h ho h1 h2 h3 h4 h5 h6 h7 hl hc h8.1 h8.2.1 h8.2.2.1 h8.2.2.2 XD;have e:idx (ev σ.s l)=n.toNat:=by simp[idx,hl]
   simpa[opV,opH,e]using this
  .exact h8.elim
 |slice t x lo hi mx =>
  obtain⟨h0,h1,h2,h5⟩:=YA;cases mx with
  |some _=>simp at h0
  |none =>
   split at h5
   .rename_i n hn
    split at h5
    .rename_i l hh hl VX
     have key:ZZ P o σ (zcN (tsize P (telem P t)) (ev σ.s x) l hh) σ.H ρ ok a w:=by
      unfold zex at h2;split at h2
      .rename_i s hs
       have JB:n=s.size:=by rw[hs]at hn;exact(wa0 hn).symm
       subst JB;exact zsk h ho h1 h2 hs hl VX h5.1 h5.2.1
      .exact zvx h ho h1 h2.1 h2.2.1 h2.2.2 hn hl VX h5.1 h5.2.1 h5.2.2
     simpa[opV,opH,hn,hl,VX]using key
    .exact h5.elim
   .exact h5.elim
 |fieldAddr t x f =>
  obtain⟨h1,h2,h3,h4,h5,h6⟩:=YA;exact zr2 h ho h1 h2 h3 h4 h5 h6
 |field t x f =>
  obtain⟨h1,h2,h3,h4,h5⟩:=YA;split at h5
  .rename_i cs hx
   have:=zvy h ho h1 h2 h3 h4 hx h5;simpa[opV,opH,hx]using this
  .exact h5.elim
 |indexAddr t x y =>
  obtain⟨h1,h3,h2⟩:=YA;rcases h2 with⟨h2,h4,h5⟩|⟨h2,h4,h5⟩
  .split at h5
   .rename_i n hn
    have:=zr3 h ho h1 h2 h3 h4 hn h5;simpa[opV,opH,h2]using this
   .exact h5.elim
  .have Wa:isSliceD (tdesc P t)=false:=by rw[zlR h2];rfl
   have:=zsl h ho h1 h2 h3 h4 h5;simpa[opV,opH,Wa]using this
 |index t x y =>
  obtain⟨h1,h2⟩:=YA;rcases h2 with⟨h2,h3,h4,h5⟩|⟨h2,h3⟩
  .split at h5
   .rename_i cs hx
    have:=zvz h ho h1 h2 h3 h4 hx h5;simpa[opV,opH,hx]using this
   .exact h5.elim
  .split at h3
   .rename_i s hx
    have:=zsm h ho h1 h2 hx h3;simpa[opV,opH,hx]using this
   .exact h3.elim
 |extract x i =>
  simp only[Zl]at YA;split at YA
  .rename_i vs hx
   have:=zsD (P:=P) h ho hx YA;simpa[opV,opH,hx]using this
  .exact YA.elim
 |makeFunc fn first caps =>
  obtain⟨h1,h2,h3⟩:=YA;cases fn<;>first|exact h2.elim|exact zsg h ho h1 h3
 |call c =>
  obtain⟨callee,args,ats⟩:=c;cases callee with
  |value f=>simp[Zh]at hs
  |invoke r m=>simp[Zh]at hs
  |builtin b =>
   cases b<;>first|(simp[Zh]at hs;done)|skip
   .simp[Zh]at hs
    simp only[Zl]at YA;split at YA
    .rename_i x t hx ht
     have:=zxP h ho hs hx ht YA.1 YA.2;simpa[opV,opH,hx]using this
    .exact YA.elim
   .exact zxO h ho YA
 |_=>simp[Zh]at hs
end
def ZU(P:Program)(m:Nat)(o:Oper)(σ:St)(v:AV)(τ:St):Prop:=QW P m o σ fun v' τ'=>v'=v/\τ'=τ
section
variable {P:Program} {m:Nat}
theorem znu{f:FuncId}{args:List AV}{σ:St}{K:AV->St->Prop}:ZK P m f args σ K↔∃ v τ,ZK P m f args σ (fun v' τ'=>v'=v/\τ'=τ)/\K v τ:=by
 constructor
 .rintro(⟨tvs,r,h1,h2,h3⟩|⟨h0,r,H',h2,h3⟩|⟨h0,r,σ',hn,h2,h3⟩|⟨h0,r,h2,h3⟩)
  .exact⟨_,_,.inl ⟨tvs,r,h1,h2,rfl,rfl⟩,h3⟩
  .exact⟨_,_,.inr (.inl ⟨h0,r,H',h2,rfl,rfl⟩),h3⟩
  .exact⟨_,_,.inr (.inr (.inl ⟨h0,r,σ',hn,h2,rfl,rfl⟩)),h3⟩
  .exact⟨_,_,.inr (.inr (.inr ⟨h0,r,h2,rfl,rfl⟩)),h3⟩
 .rintro⟨v,τ,⟨tvs,r,h1,h2,rfl,rfl⟩|⟨h0,r,H',h2,rfl,rfl⟩|⟨h0,r,σ',hn,h2,rfl,rfl⟩|⟨h0,r,h2,rfl,rfl⟩,hK⟩
  .exact .inl ⟨tvs,r,h1,h2,hK⟩
  .exact .inr (.inl ⟨h0,r,H',h2,hK⟩)
  .exact .inr (.inr (.inl ⟨h0,r,σ',hn,h2,hK⟩))
  .exact .inr (.inr (.inr ⟨h0,r,h2,hK⟩))
theorem ztE{f:AV}{args:List AV}{σ:St}{K:AV->St->Prop}:zaM P m f args σ K↔∃ v τ,zaM P m f args σ (fun v' τ'=>v'=v/\τ'=τ)/\K v τ:=by
 unfold zaM;cases zdb f with
 |none=>simp
 |some p=>exact znu
theorem ziv{o:Oper}{σ:St}{K:AV->St->Prop}:QW P m o σ K↔∃ v τ,ZU P m o σ v τ/\K v τ:=by
 unfold ZU QW;split
 .exact ztE
 .split
  .constructor
   .rintro⟨h1,h2⟩;exact⟨_,_,⟨h1,rfl,rfl⟩,h2⟩
   .rintro⟨v,τ,⟨h1,rfl,rfl⟩,h2⟩;exact⟨h1,h2⟩
  .constructor
   .rintro⟨r,σ',hn,h1,h2⟩;exact⟨_,_,⟨r,σ',hn,h1,rfl,rfl⟩,h2⟩
   .rintro⟨v,τ,⟨r,σ',hn,h1,rfl,rfl⟩,h2⟩;exact⟨r,σ',hn,h1,h2⟩
end
theorem zgN:∀ (l:List TV),(emb.embs l).length=l.length
 |[]=>rfl
 |x::l=>by simp[emb.embs,zgN l]
theorem zg9:∀ (l:List TV) (i:Nat) (h:i<(emb.embs l).length) (h':i<l.length),(emb.embs l)[i]=emb l[i]
 |[],i,h,_=>by simp[emb.embs]at h
 |x::l,0,_,_=>rfl
 |x::l,i+1,h,h'=>by simpa[emb.embs]using zg9 l i (by simpa[emb.embs]using h) (by simpa using h')
theorem zew{w:World}{ok:Nat->Prop}{ρ ρ':Nat->Option Nat}{x:AV}{v:Value}(h:RA w ok ρ x v):∀ tv,x=emb tv->RA w ok ρ' (emb tv) v:=by
 induction h with
 |one h =>
  intro tv e;cases tv with
  |one t=>simp only[emb,AV.one.injEq]at e;subst e;cases h with|t h=>exact .one (.t h)
  |agg ts=>simp[emb]at e
  |tup xs=>simp[emb]at e
  |ip ts=>simp[emb]at e
 |agg h1 h2 =>
  intro tv e;cases tv with
  |one t=>simp[emb]at e
  |agg ts =>
   simp only[emb,AV.agg.injEq]at e;subst e;refine .agg h1 fun j hj Yz=>?_
   have:=h2 j hj Yz;simp only[Qq]at this ⊢;cases this with|t h=>exact .t h
  |tup xs=>simp[emb]at e
  |ip ts=>simp[emb]at e
 |iptr h1 h2 h3 =>
  intro tv e;cases tv with
  |ip ts=>simp only[emb,AV.iptr.injEq]at e;subst e;exact .iptr h1 h2 h3
  |_=>simp[emb]at e
 |tup h1 h2 ih =>
  intro tv e;cases tv with
  |one t=>simp[emb]at e
  |agg ts=>simp[emb]at e
  |ip ts=>simp[emb]at e
  |tup xs =>
   simp only[emb,AV.tup.injEq]at e;subst e;refine .tup h1 fun j hj Yz=>?_
   have X1:j<xs.length:=by rw[zgN]at hj;exact hj
   have:=ih j hj Yz xs[j] (zg9 xs j hj X1);rw[zg9 xs j hj X1];exact this
 |junk=>intro tv e;cases tv<;>simp[emb]at e
section
variable {P:Program} {m:Nat} {o:Oper} {σ:St} {ρ:Nat->Option Nat} {ok:Nat->Prop} {a:Act} {w:World}
theorem Yb(h:HR ρ ok σ.H w){b c:Nat}(hb:ρ b=some c):c<w.heap.size:=by
 cases hH:σ.H b with
 |none=>rw[h.dom b hH]at hb;cases hb
 |some cs =>
  obtain⟨c',arr',el',h1,h2,_⟩:=h.heap b cs hH;rw[hb]at h1;cases h1
  rcases was c w.heap.size with h3|h3
  .exact h3
  .simp[wcr h3]at h2
theorem SR.pure(h:SR ρ ok σ a w){ok':Nat->Prop}{w':World}(hg:Goes noρ ok w noρ ok' w')(Yw:∀ n,ok' n->n<w'.heap.size):SR ρ ok' σ a w'/\Goes ρ ok w ρ ok' w':=by
 have Y4:∀ n,n<w.heap.size->w'.heap[n]? = w.heap[n]?:=fun n hn=>hg.same n hn (fun b e=>by cases e)
 have hk:zai ok w w':=fun n hn=>Y4 n (h.okR n hn).1
 refine⟨⟨⟨fun b cs hb=>?_,h.dom,h.inj,fun n hn=>⟨Yw n hn,fun b hb=>?_⟩⟩,h.size,fun t=>h.lift hk hg.up hg.shape (fun _ _ h=>h) t,h.defers,h.small⟩,⟨hg.size,fun n hn _=>Y4 n hn,hg.shape,fun b n hb=>.inl ⟨b,hb⟩,hg.up,fun n hn=>?_,fun _ _=>.inl rfl,hg.env⟩⟩
 .obtain⟨c,arr,el,h1,h2,h3,h4⟩:=h.heap b cs hb
  exact⟨c,arr,el,h1,by rw[Y4 c (Yb h.toHR h1)];exact h2,h3,fun j hj Yz=>(h4 j hj Yz).mono hk hg.up hg.shape (fun _ _ h=>h)⟩
 .rcases hg.down n hn with h1|⟨b',h1⟩|h1
  .exact(h.okR n h1).2 b hb
  .cases h1
  .have:=Yb h.toHR hb;omega
 .rcases hg.down n hn with h1|⟨b',h1⟩|h1
  .exact .inl h1
  .cases h1
  .exact .inr (.inr h1)
theorem Zf.step{f:FuncId}{args:List AV}{r:AV}{H':QD}(hc:Zf P f args σ.H r H'):zrB P f args σ r (σ.withH H'):=by
 refine⟨hc.1,fun ρ ok a w vs h hv=>(hc.2 ρ ok w vs h.toHR hv).mono ?_⟩;rintro e w' ⟨v,ρ',ok',he,hr,hH,hg,hρ⟩;have hk:zai ok w w':=fun n hn=>hg.same n (h.okR n hn).1 (h.okR n hn).2
 exact⟨v,ρ',ok',he,hr,⟨hH,h.size,fun t=>h.lift hk hg.up hg.shape hρ t,h.defers,h.small⟩,hg⟩
theorem zsS{f:FuncId}{args:List AV}{K:AV->St->Prop}(h:SR ρ ok σ a w){vs:Array Value}(hv:zaH w ok ρ args vs)(hc:ZK P m f args σ K) :
  (∀ (as:Array Value) w,(callFunc f as).run P w = .ok (.enter f as) w) /\
  Calls P f vs w fun e w'=>∃ x v τ ρ' ok',e = .returned v/\K x τ/\RA w' ok' ρ' x v/\SR ρ' ok' τ a w'/\Goes ρ ok w ρ' ok' w'/\τ.n=σ.n:=by
 rcases hc with⟨tvs,r,rfl,h1,hK⟩|⟨_,r,H',h1,hK⟩|⟨_,r,σ',hn,h1,hK⟩|⟨_,r,h1,hK⟩
 .refine⟨h1.1,(h1.2 ok w vs (fun n hn=>(h.okR n hn).1) ⟨hv.1,fun i hi Y6=>?_⟩).mono ?_⟩
  .have:=hv.2 i hi Y6
   simp only[Qq]at this ⊢;exact zew this _ rfl
  .rintro e w' ⟨v,ok',rfl,hr,hg,Yw⟩
   obtain⟨s1,s2⟩:=h.pure hg Yw;exact⟨emb r,v,σ,ρ,ok',rfl,hK,zew hr _ rfl,s1,s2,rfl⟩
 .refine⟨h1.1,(h1.step.2 ρ ok a w vs h hv).mono ?_⟩
  rintro e w' ⟨v,ρ',ok',rfl,hr,hs,hg⟩;exact⟨r,v,_,ρ',ok',rfl,hK,hr,hs,hg,rfl⟩
 .refine⟨h1.1,(h1.2 ρ ok a w vs h hv).mono ?_⟩
  rintro e w' ⟨v,ρ',ok',rfl,hr,hs,hg⟩;exact⟨r,v,_,ρ',ok',rfl,hK,hr,hs,hg,hn⟩
 .replace h1:=h1 σ.H fun _ _ h=>h
  refine⟨h1.1,(h1.step.2 ρ ok a w vs h hv).mono ?_⟩;rintro e w' ⟨v,ρ',ok',rfl,hr,hs,hg⟩;exact⟨r,v,_,ρ',ok',rfl,hK,hr,hs,hg,rfl⟩
theorem zvc(h:SR ρ ok σ a w)(args:Array Operand):zaH w ok ρ (args.toList.map (ev σ.s)) (args.map a.eval):=by
 refine⟨by simp,fun i hi Y6=>?_⟩;simp only[Qq,wdY,wbO];exact Zj h _
theorem zaH.append{xs ys:List AV}{us vs:Array Value}(h:zaH w ok ρ xs us)(h':zaH w ok ρ ys vs):zaH w ok ρ (xs++ys) (us++vs):=by
 refine⟨by simp[h.1,h'.1],fun i hi Y6=>?_⟩;by_cases hx:i<xs.length
 .rw[wbt hx,wbF (by rw[h.1];exact hx)]
  exact h.2 i hx _
 .rw[wbA (by omega),wdC (by rw[h.1];omega)]
  have e:i-us.size=i-xs.length:=by rw[h.1]
  simp only[e];exact h'.2 _ _ _
theorem zkb{K:AV->St->Prop}{Q:Exit->Act->World->Prop}(h:SR ρ ok σ a w)(hd:zbd σ.n o.dst=true)(hs:QW P m o σ K) :
  o.wp P a w (fun a' w'=>∃ x v τ ρ' ok',K x τ/\a'=a.put o.dst v/\RA w' ok' ρ' x v/\SR ρ' ok' τ a w'/\Goes ρ ok w ρ' ok' w'/\τ.n=σ.n) Q:=by
 unfold QW at hs;split at hs
 .rename_i f args ats ho
  unfold zaM at hs;split at hs
  .rename_i fid caps hf
   have Gg:∃ vs,a.eval f = .func (.func fid) #[] vs/\zaH w ok ρ caps vs:=by
    unfold zdb at hf;split at hf
    .rename_i f' caps' FZ
     cases hf
     have XO:=Zj h f;rw[FZ]at XO;generalize hv:a.eval f=vf at XO;cases XO with
     |one XO =>
      cases XO with
      |fn g1 g2 =>
       rename_i vs;refine⟨vs,rfl,by simpa using g1,fun i hi Y6=>?_⟩;obtain⟨c,e1,e2⟩:=g2 i (by simpa using hi) Y6;rw[e2];simp only[Qq,zjX];exact .one (.ptr e1)
    .rename_i f' caps' FZ
     cases hf
     have XO:=Zj h f;rw[FZ]at XO;generalize hv:a.eval f=vf at XO;cases XO with
     |one XO =>
      cases XO with
      |t XO =>
       cases XO with
       |clo g1 g2 g3 g4 =>
        rename_i vs blk off u;refine⟨vs,rfl,by simpa using g1,fun i hi Y6=>?_⟩;have XS:i<caps'.length:=by simpa using hi
        rw[(g2 i XS Y6).1];simp only[Qq];exact .iptr (u:=fun j=>u i j) (g2 i XS Y6).2 (fun j hj=>g3 i XS j hj) (fun j hj=>g4 i XS j hj)
    .cases hf
   obtain⟨vs,hv,XV⟩:=Gg;obtain⟨Xb,Nj⟩:=zsS h ((zvc h args).append XV) hs;unfold Oper.wp;have Xc:(execOp a.eval o).run P w = .ok (.enter fid (args.map a.eval++vs)) w:=by
    simp only[execOp,ho,resolve,hv,Deferred.ofValue,Sem.run_bind,Sem.run_pure,Result.andThen,invoke];rw[wcs];exact Xb _ _
   rw[Xc];simp only[Oper.upon];refine Nj.mono ?_;rintro e w' ⟨x,v,τ,ρ',ok',rfl,hK,hr,K4,hg,hn⟩;exact⟨x,v,τ,ρ',ok',hK,rfl,hr,K4,hg,hn⟩
  .exact hs.elim
 .split at hs
  .rename_i Ha
   obtain⟨YA,hK⟩:=hs;obtain⟨nx,v,w',ρ',ok',Xc,Yx,hr,K4,hg⟩:=zrX h (by have:=h.small;cases Db:o.dst with
    |none=>exact Nat.zero_lt_succ _
    |some d=>rw[Db]at hd;simp only[zbd,way]at hd;exact wbf hd this) Ha YA
   unfold Oper.wp;rw[Xc];rcases Yx with rfl|⟨rfl,rfl⟩
   .exact⟨_,v,_,ρ',ok',hK,rfl,hr,K4,hg,rfl⟩
   .exact⟨_,undef,_,ρ',ok',hK,rfl,hr,K4,hg,rfl⟩
  .obtain⟨r,σ',hn,h1,hK⟩:=hs
   obtain⟨v,w',ρ',ok',Xc,hr,K4,hg⟩:=h1 ρ ok a w h;unfold Oper.wp;rw[Xc];exact⟨r,v,σ',ρ',ok',hK,rfl,hr,K4,hg,hn⟩
theorem zvd{tmps:Array Value}{t:Nat}{v:Value}(h:tmps.getD t undef=v)(hv:∀ vs,v≠.tuple vs):tmps[t]? = some v:=by
 rw[wcg]at h;cases hx:tmps[t]? with
 |none=>simp[hx]at h;exact Qo h.symm (hv _)
 |some u=>simp[hx]at h;rw[h]
theorem zkT:∀ (l:List Oper) (j:Nat),zdk l j=(l[j]?).bind (·.dst)
 |[],j=>by simp[zdk]
 |o::l,0=>by simp[zdk]
 |o::l,n+1=>by simpa[zdk]using zkT l n
theorem zfM(h:SR ρ ok σ a w){ops:Array Oper}{b:Bool}(hw:zbz ops.toList σ o.guard=some b):Region.wanted o (yielded ops a.tmps)=b:=by
 unfold zbz at hw;unfold Region.wanted;cases hg:o.guard with
 |none=>simp[hg]at hw;simpa using hw
 |some p =>
  obtain⟨j,want⟩:=p;simp only[hg]at hw ⊢;rw[zkT]at hw;unfold yielded;rw[wd2]at hw;cases hd:(ops[j]?).bind (·.dst)with
  |none =>
   simp only[hd]at hw;cases hw
   simp
  |some t =>
   simp only[hd]at hw;simp only[wdf];have hs:=h.slots t;simp only[zhS,zhR]at hw;split at hw
   .rename_i b' hb'
    cases hw
    rw[hb']at hs;generalize hv:a.tmps.getD t undef=v at hs;cases hs with|one hs=>cases hs with|t hs=>cases hs with|lit _ =>
    rw[zvd hv (by intro vs e;cases e)];simp
   .rename_i hb'
    cases hw
    rw[hb']at hs;generalize hv:a.tmps.getD t undef=v at hs;cases hs with
    |tup g1 g2 =>
     rw[wcg]at hv;cases hx:a.tmps[t]? with
     |none=>simp
     |some u=>simp[hx]at hv;subst hv;simp
   .cases hw
theorem SR.undefA(h:SR ρ ok σ a w)(hd:zbd σ.n o.dst=true):SR ρ ok (σ.putO o.dst undefA) (a.put o.dst undef) w :=
 h.putA hd (.tup rfl fun j hj=>by simp at hj)
theorem ztF{ops:Array Oper}{Qa:St->Prop}{Q:Exit->Act->World->Prop}:∀ (l:List Oper) (σ:St) (ρ:Nat->Option Nat) (ok:Nat->Prop) (a:Act) (w:World),SR ρ ok σ a w->Yf P m ops.toList Qa l σ ->
  (∀ σ' ρ' ok' a' w',Qa σ'->SR ρ' ok' σ' a' w'->Goes ρ ok w ρ' ok' w'->Q .normal a' w')->wpList P ops Q l a w:=by
 intro l
 induction l with
 |nil=>intro σ ρ ok a w h hr hq;exact hq σ ρ ok a w hr h (Goes.refl _ _ _)
 |cons o l ih =>
  intro σ ρ ok a w h hr hq;obtain⟨hd,hr⟩:=hr;unfold BR at hr;unfold wpList;split at hr
  .rename_i hw
   rw[Qc (zfM h hw)];refine .inl (Oper.wp_mono ?_ (zkb h hd hr));rintro a' w' ⟨x,v,τ,ρ',ok',hK,rfl,hx,K4,hg,hn⟩;exact ih _ ρ' ok' _ w' (K4.putA (by rw[hn];exact hd) hx) hK (fun σ'' ρ'' ok'' a'' w'' q s g=>hq σ'' ρ'' ok'' a'' w'' q s (hg.trans g))
  .rename_i hw
   rw[Qb (by rw[zfM h hw];simp)];exact ih _ ρ ok _ w (h.undefA hd) hr hq
  .exact hr.elim
end
section
variable {P:Program} {m:Nat} {ops:Array Oper}
def Sp(P:Program)(m:Nat)(ops:Array Oper)(o:Oper)(σ σ':St):Prop :=
 zbd σ.n o.dst=true/\((zbz ops.toList σ o.guard=some true/\∃ v τ,ZU P m o σ v τ/\σ'=τ.putO o.dst v)\/(zbz ops.toList σ o.guard=some false/\σ'=σ.putO o.dst undefA))
theorem zgR{Q:St->Prop}{o:Oper}{l:List Oper}{σ:St}:Yf P m ops.toList Q (o::l) σ↔∃ σ',Sp P m ops o σ σ'/\Yf P m ops.toList Q l σ':=by
 simp only[Yf,BR,Sp];constructor
 .rintro⟨hd,h⟩
  split at h
  .rename_i hw
   obtain⟨v,τ,h1,h2⟩:=ziv.1 h;exact⟨_,⟨hd,.inl ⟨hw,v,τ,h1,rfl⟩⟩,h2⟩
  .rename_i hw;exact⟨_,⟨hd,.inr ⟨hw,rfl⟩⟩,h⟩
  .exact h.elim
 .rintro⟨σ',⟨hd,⟨hw,v,τ,h1,rfl⟩|⟨hw,rfl⟩⟩,h2⟩
  .refine⟨hd,?_⟩
   rw[hw];exact ziv.2 ⟨v,τ,h1,h2⟩
  .refine⟨hd,?_⟩
   rw[hw];exact h2
def Yg(ops:Array Oper)(o:Oper)(s s':Nat->AV):Prop:=∀ t∈o.looksAt ops,s t=s' t
theorem Yg.ev{o:Oper}{s s':Nat->AV}(h:Yg ops o s s'){x:Operand}(hx:x∈o.op.operands.toList):ev s x=ev s' x:=by
 cases x with
 |tmp t =>
  refine h t ?_;unfold Oper.looksAt;exact wbR _ (wdD.2 ⟨.tmp t,hx,rfl⟩)
 |_=>rfl
theorem zmx{o:Oper}{σ σ':St}(h:Yg ops o σ.s σ'.s):zbz ops.toList σ o.guard=zbz ops.toList σ' o.guard:=by
 unfold zbz;cases hg:o.guard with
 |none=>rfl
 |some p =>
  obtain⟨j,want⟩:=p;simp only[zkT,wd2];cases hd:(ops[j]?).bind (·.dst)with
  |none=>rfl
  |some t =>
   have:σ.s t=σ'.s t:=h t (by unfold Oper.looksAt;exact wbB _ (by simp[hg,hd]));simp only[zhS];rw[this]
theorem zr1{e e':Operand->AV}{l:List Operand}(h:∀ x∈l,e x=e' x):l.map e=l.map e':=wau h
theorem zf1{op:Op}{d:Nat}{e e':Operand->AV}{H:QD}(h:∀ x∈op.operands.toList,e x=e' x)(hs:Zh op=true) :
  Zl P d e H op=Zl P d e' H op/\opV P d e H op=opV P d e' H op/\opH P d e H op=opH P d e' H op:=by
 cases op with
 |move x|assign x|box _ x|load _ x|nilCheck x|unOp _ _ x|convert _ _ x|fieldAddr _ x _|field _ x _|extract x _ =>
  have h1:=h x (by simp[Op.operands]);simp[Zl,opV,opH,h1]
 |pick c x y =>
  have h1:=h c (by simp[Op.operands]);have h2:=h x (by simp[Op.operands]);have h3:=h y (by simp[Op.operands]);simp[Zl,opV,opH,h1,h2,h3]
 |alloc _=>simp[Zl,opV,opH]
 |store _ x y|binOp _ _ x y _|makeSlice _ x y|indexAddr _ x y|index _ x y =>
  have h1:=h x (by simp[Op.operands]);have h2:=h y (by simp[Op.operands]);simp[Zl,opV,opH,h1,h2]
 |build t parts|buildSlice t n parts =>
  have:(parts.toList.map fun p=>(p.1,e p.2))=parts.toList.map fun p=>(p.1,e' p.2):=by
   apply wau;intro p hp;rw[h p.2 (by simp only[Op.operands];simpa using⟨p.1,by simpa using hp⟩)]
  simp[Zl,opV,opH,this]
 |slice t x lo hi mx =>
  have h1:=h x (by simp[Op.operands]);have h2:lo.map e=lo.map e':=by cases lo with|none=>rfl|some y=>simp[h y (by simp[Op.operands])]
  have h3:hi.map e=hi.map e':=by cases hi with|none=>rfl|some y=>simp[h y (by simp[Op.operands])]
  simp[Zl,opV,opH,h1,h2,h3]
 |makeFunc fn first caps =>
  have:caps.toList.map e=caps.toList.map e':=wau fun x hx=>h x (by simp[Op.operands];exact .inr (by simpa using hx))
  simp only[Zl,opV,opH,this,Qu]
 |call c =>
  obtain⟨callee,args,ats⟩:=c;cases callee with
  |builtin b =>
   have:∀ x,args[0]? = some x->e x=e' x:=fun x hx=>h x (by
    have:=Array.mem_of_getElem? hx;simpa[Op.operands,Call.operands]using this)
   have hm:args.toList.map e=args.toList.map e':=zr1 fun x hx=>h x (by simpa[Op.operands,Call.operands]using hx)
   cases b<;>first|(simp[Zh]at hs;done)|skip
   .cases hx:args[0]? with
    |none=>simp[Zl,opV,opH,hx]
    |some x=>cases ht:(ats[0]? : Option TypeId)<;>simp[Zl,opV,opH,hx,ht,this x hx]
   .simp only[Zl,opV,opH,hm,Qu]
  |value f=>simp[Zh]at hs
  |invoke r mth=>simp[Zh]at hs
 |_=>simp[Zh]at hs
theorem zlx{op:Op}{d:Nat}{e:Operand->AV}{H H':QD}(hc:QZ m op = .pure)(hs:Zh op=true) :
  Zl P d e H op=Zl P d e H' op/\opV P d e H op=opV P d e H' op/\opH P d e H op=H:=by
 cases op with
 |call c =>
  obtain⟨callee,args,ats⟩:=c;cases callee with
  |builtin b=>cases b<;>exact⟨rfl,rfl,rfl⟩
  |value f=>simp[Zh]at hs
  |invoke r mth=>simp[Zh]at hs
 |alloc|box|makeSlice|load|store=>simp[QZ]at hc
 |move|assign|pick|build|buildSlice|nilCheck|binOp|unOp|convert|slice|fieldAddr|field|indexAddr|index|extract|makeFunc=>exact⟨rfl,rfl,rfl⟩
 |_=>simp[Zh]at hs
theorem zig{op:Op}{d:Nat}{e:Operand->AV}{H:QD}(hc:QZ m op = .alloc):(Zl P d e H op->H d=none)/\(∃ x,(Zl P d e H op->x.isSome=true)/\∀ H,opH P d e H op=upd H d x) /\
  ∀ H',(Zl P d e H op->H' d=none->Zl P d e H' op)/\opV P d e H op=opV P d e H' op:=by
 cases op with
 |alloc t=>exact⟨fun h=>h.2.2,⟨_,fun h=>h.2.1,fun _=>rfl⟩,fun H'=>⟨fun h h'=>⟨h.1,h.2.1,h'⟩,rfl⟩⟩
 |box t x=>exact⟨fun h=>h.2,⟨_,fun h=>h.1,fun _=>rfl⟩,fun H'=>⟨fun h h'=>⟨h.1,h'⟩,rfl⟩⟩
 |makeSlice t l c =>
  refine⟨fun h=>h.2.2.2.2.2.2.1,⟨_,fun _=>rfl,fun _=>rfl⟩,fun H'=>⟨?_,rfl⟩⟩;rintro⟨h1,h2,h3,h4,h5,h6,h7,h8⟩ h';exact⟨h1,h2,h3,h4,h5,h6,h',h8⟩
 |call c=>obtain⟨callee,args,ats⟩:=c;cases callee<;>simp only[QZ]at hc<;>(repeat' split at hc)<;>cases hc
 |_=>simp only[QZ]at hc;(repeat' split at hc)<;>cases hc
theorem ziw{op:Op}(hc:QZ m op = .load):∃ t x,op = .load t x:=by
 cases op with
 |load t x=>exact⟨t,x,rfl⟩
 |call c=>obtain⟨callee,args,ats⟩:=c;cases callee<;>simp only[QZ]at hc<;>(repeat' split at hc)<;>cases hc
 |_=>simp only[QZ]at hc;(repeat' split at hc)<;>cases hc
theorem zgV{op:Op}(hc:QZ m op = .alloc\/QZ m op = .load):Zh op=true:=by
 cases op with
 |call c=>obtain⟨callee,args,ats⟩:=c;cases callee<;>simp only[QZ]at hc<;>(repeat' split at hc)<;>simp at hc
 |alloc|box|makeSlice|load=>rfl
 |_=>simp only[QZ]at hc;(repeat' split at hc)<;>simp at hc
theorem zsj{H:QD}{d:Nat}{x:Option (List C)}{v:AV}(h:(ZJ H v).isSome=true)(hd:H d=none):ZJ (upd H d x) v=ZJ H v:=by
 unfold ZJ at *
 split at h
 .rename_i b off
  simp only[upd];split
  .subst b;simp[hd]at h
  .rfl
 .rfl
 .cases h
theorem zix{σ:St}{d d':Option Nat}{v v':AV}(h:∀ x,d=some x->d'≠some x):(σ.putO d v).putO d' v'=(σ.putO d' v').putO d v:=by
 cases d with
 |none=>rfl
 |some x =>
  cases d' with
  |none=>rfl
  |some y =>
   have hne:x≠y:=fun e=>h x rfl (by rw[e])
   simp only[St.putO,St.put];congr 1;funext t;by_cases h1:t=y
   .subst h1;simp[Ne.symm hne]
   .simp[h1]
theorem Yc{σ:St}{d:Option Nat}{v:AV}{H:QD}:(σ.withH H).putO d v=(σ.putO d v).withH H:=by cases d<;>rfl
theorem Yg.putO{o:Oper}{σ:St}{d:Option Nat}{v:AV}(h:∀ x,d=some x->x∉o.looksAt ops):Yg ops o (σ.putO d v).s σ.s:=by
 intro t ht;cases d with
 |none=>rfl
 |some x=>simp only[St.putO,St.put];rw[Qb];rintro rfl;exact h t rfl ht
theorem zdz{o:Oper}{f:Operand}{args:Array Operand}{ats:Array TypeId}(ho:o.op = .call { callee:=.value f,args:=args,argTypes:=ats }){σ:St}{v:AV}{τ:St} :
  ZU P m o σ v τ↔zaM P m (ev σ.s f) (args.toList.map (ev σ.s)) σ (fun v' τ'=>v'=v/\τ'=τ):=by
 unfold ZU QW;rw[ho]
theorem zbt{o:Oper}(hs:Zh o.op=true){σ:St}{v:AV}{τ:St} :
  ZU P m o σ v τ↔Zl P (o.dst.getD 0) (ev σ.s) σ.H o.op/\opV P (o.dst.getD 0) (ev σ.s) σ.H o.op=v/\σ.withH (opH P (o.dst.getD 0) (ev σ.s) σ.H o.op)=τ:=by
 unfold ZU QW;split
 .rename_i f args ats ho;rw[ho]at hs;simp[Zh]at hs
 .rw[Qc hs];exact wbn
theorem zdA{o:Oper}(hc:QZ m o.op≠.full){σ:St}{v:AV}{τ:St}(h:ZU P m o σ v τ):(∃ H',τ=σ.withH H') /\
  ∀ σ':St,Yg ops o σ.s σ'.s->σ'.H=σ.H->ZU P m o σ' v (σ'.withH τ.H):=by
 by_cases hs:Zh o.op=true
 .rw[zbt hs]at h
  obtain⟨h1,rfl,rfl⟩:=h;refine⟨⟨_,rfl⟩,fun σ' ha hH=>?_⟩;obtain⟨c1,c2,c3⟩:=zf1 (P:=P) (d:=o.dst.getD 0) (H:=σ.H) (fun x hx=>ha.ev hx) hs;rw[zbt hs,hH,<-c1,<-c2,<-c3];exact⟨h1,rfl,rfl⟩
 .generalize ho:o.op=op at *
  cases op with
  |call c =>
   obtain⟨callee,args,ats⟩:=c;cases callee with
   |value f =>
    rw[zdz ho]at h;have VO:∀ x∈f::args.toList,∀ σ':St,Yg ops o σ.s σ'.s->ev σ.s x=ev σ'.s x:=fun x hx σ' ha=>ha.ev (by rw[ho];simpa[Op.operands,Call.operands]using hx)
    unfold zaM at h;cases V5:zdb (ev σ.s f)with
    |none=>rw[V5]at h;exact h.elim
    |some p =>
     obtain⟨fid,caps⟩:=p;rw[V5]at h;have key:∀ σ':St,Yg ops o σ.s σ'.s->zdb (ev σ'.s f)=some (fid,caps)/\args.toList.map (ev σ'.s)=args.toList.map (ev σ.s):=fun σ' ha =>
      ⟨by rw[<-VO f (by simp) σ' ha];exact V5,wau fun x hx=>(VO x (by simp[hx]) σ' ha).symm⟩
     rcases h with⟨tvs,r,h1,h2,rfl,rfl⟩|⟨hm,r,H',h2,rfl,rfl⟩|⟨hm,_⟩|⟨hm,r,h2,rfl,rfl⟩
     .refine⟨⟨_,rfl⟩,fun σ' ha hH=>?_⟩
      rw[zdz ho];unfold zaM;obtain⟨k1,k2⟩:=key σ' ha;rw[k1,k2];exact .inl ⟨tvs,r,h1,h2,rfl,by rw[<-hH];rfl⟩
     .refine⟨⟨_,rfl⟩,fun σ' ha hH=>?_⟩
      rw[zdz ho];unfold zaM;obtain⟨k1,k2⟩:=key σ' ha;rw[k1,k2];refine .inr (.inl ⟨hm,r,H',by rw[hH];exact h2,rfl,rfl⟩)
     .refine Qo ?_ hc
      subst hm;rfl
     .refine⟨⟨_,rfl⟩,fun σ' ha hH=>?_⟩
      rw[zdz ho];unfold zaM;obtain⟨k1,k2⟩:=key σ' ha;rw[k1,k2];exact .inr (.inr (.inr ⟨hm,r,by rw[hH];exact h2,rfl,by rw[<-hH];rfl⟩))
   |_=>first|exact Qo rfl hs|simp[QZ,hs]at hc
  |_=>first|exact Qo rfl hs|simp[QZ,hs]at hc
theorem zm5{o:Oper}(hc:QZ m o.op = .pure){σ:St}{v:AV}{τ:St}(h:ZU P m o σ v τ):τ=σ /\
  ∀ σ':St,Yg ops o σ.s σ'.s->ZU P m o σ' v σ':=by
 by_cases hs:Zh o.op=true
 .rw[zbt hs]at h
  obtain⟨h1,rfl,rfl⟩:=h;refine⟨by rw[(zlx hc hs (H':=σ.H)).2.2];rfl,fun σ' ha=>?_⟩;obtain⟨c1,c2,c3⟩:=zf1 (P:=P) (d:=o.dst.getD 0) (H:=σ.H) (fun x hx=>ha.ev hx) hs;obtain⟨d1,d2,d3⟩:=zlx (P:=P) (d:=o.dst.getD 0) (e:=ev σ'.s) (H:=σ.H) (H':=σ'.H) hc hs;obtain⟨e1,e2,e3⟩:=zlx (P:=P) (d:=o.dst.getD 0) (e:=ev σ'.s) (H:=σ'.H) (H':=σ'.H) hc hs;rw[zbt hs,e3,<-d1,<-d2,<-c1,<-c2];exact⟨h1,rfl,rfl⟩
 .have hm:m=0:=by
   generalize o.op=op at *
   cases op with
   |call c =>
    obtain⟨callee,args,ats⟩:=c;cases callee with
    |value f =>
     simp only[QZ]at hc;by_cases h0:m=0
     .exact h0
     .rw[Qb h0]at hc;(repeat' split at hc)<;>cases hc
    |_=>first|exact Qo rfl hs|simp[QZ,hs]at hc
   |_=>first|exact Qo rfl hs|simp[QZ,hs]at hc
  have hne:QZ m o.op≠.full:=by rw[hc];simp
  have hH:=zdA (ops:=ops) hne h;generalize ho:o.op=op at *
  cases op with
  |call c =>
   obtain⟨callee,args,ats⟩:=c;cases callee with
   |value f =>
    rw[zdz ho]at h;unfold zaM at h;cases V5:zdb (ev σ.s f)with
    |none=>rw[V5]at h;exact h.elim
    |some p =>
     obtain⟨fid,caps⟩:=p;rw[V5]at h;rcases h with⟨tvs,r,h1,h2,rfl,rfl⟩|⟨h0,_⟩|⟨h0,_⟩|⟨h0,_⟩
     .refine⟨rfl,fun σ' ha=>?_⟩
      have VO:∀ x∈f::args.toList,ev σ.s x=ev σ'.s x:=fun x hx=>ha.ev (by rw[ho];simpa[Op.operands,Call.operands]using hx)
      rw[zdz ho];unfold zaM;have k1:zdb (ev σ'.s f)=some (fid,caps):=by rw[<-VO f (by simp)];exact V5
      have k2:args.toList.map (ev σ'.s)=args.toList.map (ev σ.s):=wau fun x hx=>(VO x (by simp[hx])).symm
      rw[k1,k2];exact .inl ⟨tvs,r,h1,h2,rfl,rfl⟩
     .omega
     .omega
     .omega
   |_=>first|exact Qo rfl hs|simp[QZ,hs]at hc
  |_=>first|exact Qo rfl hs|simp[QZ,hs]at hc
theorem zkU{o:Oper}(hc:QZ m o.op = .rd){σ:St}{v:AV}{τ:St}(h:ZU P m o σ v τ):τ=σ /\
  ∀ σ':St,Yg ops o σ.s σ'.s->(∀ b cs,σ.H b=some cs->σ'.H b=some cs)->ZU P m o σ' v σ':=by
 generalize ho:o.op=op at *
 cases op with
 |call c =>
  obtain⟨callee,args,ats⟩:=c;cases callee with
  |value f =>
   rw[zdz ho]at h;have VO:∀ x∈f::args.toList,∀ σ':St,Yg ops o σ.s σ'.s->ev σ.s x=ev σ'.s x:=fun x hx σ' ha=>ha.ev (by rw[ho];simpa[Op.operands,Call.operands]using hx)
   have hm:m=3:=by
    simp only[QZ]at hc;by_cases h3:m=3
    .exact h3
    .rw[Qb h3]at hc;(repeat' split at hc)<;>cases hc
   unfold zaM at h;cases V5:zdb (ev σ.s f)with
   |none=>rw[V5]at h;exact h.elim
   |some p =>
    obtain⟨fid,caps⟩:=p;rw[V5]at h;have key:∀ σ':St,Yg ops o σ.s σ'.s->zdb (ev σ'.s f)=some (fid,caps)/\args.toList.map (ev σ'.s)=args.toList.map (ev σ.s):=fun σ' ha =>
     ⟨by rw[<-VO f (by simp) σ' ha];exact V5,wau fun x hx=>(VO x (by simp[hx]) σ' ha).symm⟩
    rcases h with⟨tvs,r,h1,h2,rfl,rfl⟩|⟨h0,_⟩|⟨h0,_⟩|⟨_,r,h2,rfl,rfl⟩
    .refine⟨rfl,fun σ' ha _=>?_⟩
     rw[zdz ho];unfold zaM;obtain⟨k1,k2⟩:=key σ' ha;rw[k1,k2];exact .inl ⟨tvs,r,h1,h2,rfl,rfl⟩
    .omega
    .omega
    .refine⟨rfl,fun σ' ha hH=>?_⟩
     rw[zdz ho];unfold zaM;obtain⟨k1,k2⟩:=key σ' ha;rw[k1,k2];exact .inr (.inr (.inr ⟨hm,r,fun H' Wh=>h2 H' fun b cs hb=>Wh b cs (hH b cs hb),rfl,rfl⟩))
  |_=>simp only[QZ]at hc;(repeat' split at hc)<;>cases hc
 |_=>simp only[QZ]at hc;(repeat' split at hc)<;>cases hc
end
section
variable {P:Program} {m:Nat} {ops:Array Oper}
theorem zez{σ:St}{d:Option Nat}{v:AV}:(σ.putO d v).n=σ.n:=by cases d<;>rfl
theorem zbT{σ:St}{d:Option Nat}{v:AV}:(σ.putO d v).H=σ.H:=by cases d<;>rfl
theorem zve{x y:Oper}(UM:x.apart ops y=true)(UN:zbN (QZ m x.op) (QZ m y.op)=true)(R0:QZ m x.op≠.full)(Nk:QZ m y.op≠.full){σ:St}{v u:AV}{H1 H2:QD}(hx:ZU P m x σ v (σ.withH H1))(hy:ZU P m y ((σ.withH H1).putO x.dst v) u (((σ.withH H1).putO x.dst v).withH H2))
  (Hg:¬QZ m x.op = .pure) (Nl:¬QZ m y.op = .pure) (EB:¬QZ m x.op = .rd) (Hh:¬QZ m y.op = .rd) :
  ∃ τ₁,ZU P m y σ u τ₁/\∃ τ₂,ZU P m x (τ₁.putO y.dst u) v τ₂/\τ₂.putO x.dst v=(((σ.withH H1).putO x.dst v).withH H2).putO y.dst u:=by
 obtain⟨a1,a2,a3⟩:=Oper.apart_spec UM;have UW:∀ {w:AV} {H:QD},Yg ops x σ.s ((σ.withH H).putO y.dst w).s:=fun {w} {H} t ht=>by
  rw[Yc];exact((Yg.putO (σ:=σ) (v:=w) (ops:=ops) (o:=x) a3) t ht).symm
 have JX:∀ {w:AV} {H:QD},Yg ops y ((σ.withH H).putO x.dst w).s σ.s:=fun {w} {H} t ht=>by
  rw[Yc];exact(Yg.putO (σ:=σ) (v:=w) (ops:=ops) (o:=y) a1) t ht
 have Y5:∀ H,((σ.withH H).putO y.dst u).putO x.dst v=((σ.withH H).putO x.dst v).putO y.dst u:=fun H=>zix (fun d hd e=>a2 d e (by rw[hd]))
 have Jt:Zh x.op=true:=zgV (m:=m) (by cases Wx:QZ m x.op<;>cases VP:QZ m y.op<;>simp_all [zbN]);have K6:Zh y.op=true:=zgV (m:=m) (by cases Wx:QZ m x.op<;>cases VP:QZ m y.op<;>simp_all [zbN]);rw[zbt Jt]at hx;rw[zbt K6]at hy;obtain⟨x1,hv,x3⟩:=hx;obtain⟨y1,hu,y3⟩:=hy;have x3':opH P (x.dst.getD 0) (ev σ.s) σ.H x.op=H1:=congrArg St.H x3;have Hi:((σ.withH H1).putO x.dst v).H=H1:=by rw[zbT];rfl
 rw[Hi]at y1 y3 hu;obtain⟨c1,c2,c3⟩:=zf1 (P:=P) (d:=y.dst.getD 0) (H:=H1) (fun z hz=>(JX (w:=v) (H:=H1)).ev hz) K6;rw[c3]at y3;rw[c1]at y1;rw[c2]at hu;have y3':opH P (y.dst.getD 0) (ev σ.s) H1 y.op=H2:=congrArg St.H y3;have key:∃ H3,Zl P (y.dst.getD 0) (ev σ.s) σ.H y.op/\opV P (y.dst.getD 0) (ev σ.s) σ.H y.op=u/\opH P (y.dst.getD 0) (ev σ.s) σ.H y.op=H3 /\
   Zl P (x.dst.getD 0) (ev σ.s) H3 x.op/\opV P (x.dst.getD 0) (ev σ.s) H3 x.op=v/\opH P (x.dst.getD 0) (ev σ.s) H3 x.op=H2:=by
  cases Wx:QZ m x.op with
  |alloc =>
   cases VP:QZ m y.op with
   |alloc =>
    obtain⟨p1,⟨zx,p4,p2⟩,p3⟩:=zig (P:=P) (m:=m) (d:=x.dst.getD 0) (e:=ev σ.s) (H:=σ.H) Wx;obtain⟨q1,⟨zy,q4,q2⟩,q3⟩:=zig (P:=P) (m:=m) (d:=y.dst.getD 0) (e:=ev σ.s) (H:=H1) VP;have WE:=p1 x1;have Vq:=q1 y1;have LY:=p4 x1;rw[p2]at x3';subst x3';have hne:y.dst.getD 0≠x.dst.getD 0:=by
     intro e;simp only[upd,e,if_true]at Vq;rw[Vq]at LY;cases LY
    have WG:σ.H (y.dst.getD 0)=none:=by simpa only[upd,hne,if_false]using Vq
    refine⟨upd σ.H (y.dst.getD 0) zy,(q3 σ.H).1 y1 WG,by rw[<-(q3 σ.H).2];exact hu,q2 _,(p3 _).1 x1 ?_,by rw[<-(p3 _).2];exact hv,?_⟩
    .simp only[upd,Ne.symm hne,if_false];exact WE
    .rw[p2,<-y3',q2]
     funext n;simp only[upd];by_cases h1:n=x.dst.getD 0
     .have h2:n≠y.dst.getD 0:=fun e=>hne (e▸h1)
      simp only[h1,if_true];rw[Qb (Ne.symm hne)]
     .simp only[h1,if_false]
   |_=>simp_all [zbN]
  |load =>
   obtain⟨tx,ax,Dc⟩:=ziw Wx;have X5:H1=σ.H:=by rw[<-x3',Dc];rfl
   subst X5;refine⟨H2,y1,hu,y3',?_⟩;cases VP:QZ m y.op with
   |alloc =>
    obtain⟨q1,⟨zy,q4,q2⟩,q3⟩:=zig (P:=P) (m:=m) (d:=y.dst.getD 0) (e:=ev σ.s) (H:=σ.H) VP;have Vq:=q1 y1;rw[q2]at y3';subst y3';rw[Dc]at x1 hv ⊢;have hc:ZJ (upd σ.H (y.dst.getD 0) zy) (ev σ.s ax)=ZJ σ.H (ev σ.s ax):=zsj x1.2.1 Vq;simp only[Zl,opV,opH,hc];exact⟨x1,hv,trivial⟩
   |load =>
    obtain⟨ty,ay,Hj⟩:=ziw VP;have:H2=σ.H:=by rw[<-y3',Hj];rfl
    subst this;rw[Dc]at x1 hv ⊢;exact⟨x1,hv,rfl⟩
   |_=>simp_all [zbN]
  |_=>cases VP:QZ m y.op<;>simp[Wx,VP,zbN]at UN<;>simp_all
 obtain⟨H3,k1,k2,k3,k4,k5,k6⟩:=key;refine⟨σ.withH H3,?_,(σ.withH H2).putO y.dst u,?_,?_⟩
 .rw[zbt K6,k2,k3];exact⟨k1,rfl,rfl⟩
 .rw[zbt Jt]
  have Hk:((σ.withH H3).putO y.dst u).H=H3:=by rw[zbT];rfl
  obtain⟨d1,d2,d3⟩:=zf1 (P:=P) (d:=x.dst.getD 0) (H:=H3) (fun z hz=>(UW (w:=u) (H:=H3)).ev hz) Jt;rw[Hk,<-d1,<-d2,<-d3,k5,k6];exact⟨k4,rfl,by rw[<-Yc];rfl⟩
 .rw[show((σ.withH H1).putO x.dst v).withH H2=(σ.withH H2).putO x.dst v by rw[<-Yc];rfl,Y5]
theorem ztG{x y:Oper}(VN:zfp m ops x y=true){σ:St}{v u:AV}{τ τ':St}(hx:ZU P m x σ v τ)(hy:ZU P m y (τ.putO x.dst v) u τ') :
  ∃ τ₁,ZU P m y σ u τ₁/\∃ τ₂,ZU P m x (τ₁.putO y.dst u) v τ₂/\τ₂.putO x.dst v=τ'.putO y.dst u:=by
 unfold zfp at VN;rw[wag]at VN;obtain⟨UM,UN⟩:=VN;obtain⟨a1,a2,a3⟩:=Oper.apart_spec UM;have R0:QZ m x.op≠.full:=by intro e;rw[e]at UN;simp[zbN]at UN
 have Nk:QZ m y.op≠.full:=by intro e;rw[e]at UN;cases h:QZ m x.op<;>simp[zbN,h]at UN
 obtain⟨⟨H1,rfl⟩,Ud⟩:=zdA (ops:=ops) R0 hx;obtain⟨⟨H2,rfl⟩,JY⟩:=zdA (ops:=ops) Nk hy;have UW:∀ {w:AV} {H:QD},Yg ops x σ.s ((σ.withH H).putO y.dst w).s:=fun {w} {H} t ht=>by
  rw[Yc];exact((Yg.putO (σ:=σ) (v:=w) (ops:=ops) (o:=x) a3) t ht).symm
 have JX:∀ {w:AV} {H:QD},Yg ops y ((σ.withH H).putO x.dst w).s σ.s:=fun {w} {H} t ht=>by
  rw[Yc];exact(Yg.putO (σ:=σ) (v:=w) (ops:=ops) (o:=y) a1) t ht
 have Y5:∀ H,((σ.withH H).putO y.dst u).putO x.dst v=((σ.withH H).putO x.dst v).putO y.dst u:=fun H=>zix (fun d hd e=>a2 d e (by rw[hd]))
 by_cases Hg:QZ m x.op = .pure
 ·
  obtain⟨e1,px⟩:=zm5 (ops:=ops) Hg hx;have X5:H1=σ.H:=congrArg St.H e1;subst X5;have sy:=JY σ (by simpa[zbh]using JX (w:=v) (H:=σ.H)) (by rw[zbT];rfl);refine⟨σ.withH H2,sy,(σ.withH H2).putO y.dst u,?_,?_⟩
  .exact px _ (UW (w:=u) (H:=H2))
  .rw[show((σ.withH σ.H).putO x.dst v).withH H2=(σ.withH H2).putO x.dst v by rw[<-Yc];rfl,Y5]
 .by_cases Nl:QZ m y.op = .pure
  .obtain⟨e2,py⟩:=zm5 (ops:=ops) Nl hy
   have XF:H2=H1:=by have:=congrArg St.H e2;rw[zbT]at this;exact this
   subst XF;have sy:=py σ (JX (w:=v) (H:=H2));have sx:=Ud (σ.putO y.dst u) (by have:=UW (w:=u) (H:=σ.H);simpa[zbh]using this) (by rw[zbT]);refine⟨σ,sy,_,sx,?_⟩;show((σ.putO y.dst u).withH H2).putO x.dst v=(((σ.withH H2).putO x.dst v).withH H2).putO y.dst u;rw[<-Yc,Y5,Yc,Yc,Yc,Yc];rfl
  .by_cases EB:QZ m x.op = .rd
   .obtain⟨e1,rx⟩:=zkU (ops:=ops) EB hx
    have X5:H1=σ.H:=congrArg St.H e1;subst X5;have sy:=JY σ (by simpa[zbh]using JX (w:=v) (H:=σ.H)) (by rw[zbT];rfl);have XF:((σ.withH σ.H).putO x.dst v).withH H2=(σ.withH H2).putO x.dst v:=by rw[<-Yc];rfl
    have sy:ZU P m y σ u (σ.withH H2):=sy;have Xk:∀ b cs,σ.H b=some cs->H2 b=some cs:=by
     cases VP:QZ m y.op with
     |alloc =>
      have K6:Zh y.op=true:=zgV (m:=m) (.inl VP);rw[zbt K6]at sy;obtain⟨y1,_,y3⟩:=sy;obtain⟨q1,⟨zy,q4,q2⟩,_⟩:=zig (P:=P) (m:=m) (d:=y.dst.getD 0) (e:=ev σ.s) (H:=σ.H) VP;have y3':opH P (y.dst.getD 0) (ev σ.s) σ.H y.op=H2:=congrArg St.H y3;rw[q2]at y3';subst y3';have Vq:=q1 y1;intro b cs hb;simp only[upd];rw[Qb (by rintro rfl;rw[Vq]at hb;cases hb)];exact hb
     |load =>
      have K6:Zh y.op=true:=zgV (m:=m) (.inr VP);obtain⟨ty,ay,Hj⟩:=ziw VP;rw[zbt K6]at sy;obtain⟨_,_,y3⟩:=sy;have y3':opH P (y.dst.getD 0) (ev σ.s) σ.H y.op=H2:=congrArg St.H y3;rw[Hj]at y3';have:H2=σ.H:=y3'.symm;subst this;exact fun _ _ h=>h
     |rd =>
      have:=congrArg St.H (zkU (ops:=ops) VP sy).1;have this:H2=σ.H:=this;subst this;exact fun _ _ h=>h
     |pure=>exact Qo VP Nl
     |_=>simp[EB,VP,zbN]at UN
    refine⟨σ.withH H2,sy,(σ.withH H2).putO y.dst u,rx _ (UW (w:=u) (H:=H2)) (by rw[zbT];exact Xk),?_⟩;rw[XF,Y5]
   .by_cases Hh:QZ m y.op = .rd
    .obtain⟨e2,ry⟩:=zkU (ops:=ops) Hh hy
     have XF:H2=H1:=by have:=congrArg St.H e2;rw[zbT]at this;exact this
     subst XF;have Wx:QZ m x.op = .load:=by cases Wx:QZ m x.op<;>simp_all [zbN]
     have Jt:Zh x.op=true:=zgV (m:=m) (.inr Wx);obtain⟨tx,ax,Dc⟩:=ziw Wx;have X5:H2=σ.H:=by
      rw[zbt Jt]at hx;have x3':opH P (x.dst.getD 0) (ev σ.s) σ.H x.op=H2:=congrArg St.H hx.2.2;rw[<-x3',Dc];rfl
     subst X5;have sy:=ry σ (by simpa[zbh]using JX (w:=v) (H:=σ.H)) (by rw[zbT];exact fun _ _ h=>h);have sx:=Ud (σ.putO y.dst u) (by have:=UW (w:=u) (H:=σ.H);simpa[zbh]using this) (by rw[zbT]);refine⟨σ,sy,_,sx,?_⟩;show((σ.putO y.dst u).withH σ.H).putO x.dst v=(((σ.withH σ.H).putO x.dst v).withH σ.H).putO y.dst u;rw[<-Yc,Y5,Yc,Yc,Yc,Yc];rfl
    .exact zve UM UN R0 Nk hx hy Hg Nl EB Hh
end
section
variable {P:Program} {m:Nat} {ops:Array Oper}
theorem zsZ{x y:Oper}(VN:zfp m ops x y=true):QZ m x.op≠.full/\QZ m y.op≠.full:=by
 unfold zfp at VN;rw[wag]at VN;refine⟨fun e=>?_,fun e=>?_⟩
 .rw[e]at VN;simp[zbN]at VN
 .rw[e]at VN;cases h:QZ m x.op<;>simp[zbN,h]at VN
theorem Sp.swap{x y:Oper}(UM:x.apart ops y=true)(fx:QZ m x.op≠.full)(fy:QZ m y.op≠.full){σ σ₁ σ₂:St}
  (sw:∀ {v u:AV} {τ τ':St},ZU P m x σ v τ->ZU P m y (τ.putO x.dst v) u τ'->∃ τ₁,ZU P m y σ u τ₁/\∃ τ₂,ZU P m x (τ₁.putO y.dst u) v τ₂/\τ₂.putO x.dst v=τ'.putO y.dst u) (hx:Sp P m ops x σ σ₁) (hy:Sp P m ops y σ₁ σ₂):∃ σ₁',Sp P m ops y σ σ₁'/\Sp P m ops x σ₁' σ₂:=by
 obtain⟨a1,a2,a3⟩:=Oper.apart_spec UM;obtain⟨dx,hx⟩:=hx;obtain⟨dy,hy⟩:=hy;have wy:∀ {v:AV} {H:QD},zbz ops.toList ((σ.withH H).putO x.dst v) y.guard=zbz ops.toList σ y.guard:=fun {v} {H} =>
  zmx (o:=y) (fun t ht=>by rw[Yc];exact(Yg.putO (σ:=σ) (v:=v) (ops:=ops) (o:=y) a1) t ht)
 have wx:∀ {v:AV} {H:QD},zbz ops.toList ((σ.withH H).putO y.dst v) x.guard=zbz ops.toList σ x.guard:=fun {v} {H} =>
  zmx (o:=x) (fun t ht=>by rw[Yc];exact(Yg.putO (σ:=σ) (v:=v) (ops:=ops) (o:=x) a3) t ht)
 have comm:∀ {H:QD} {v u:AV},((σ.withH H).putO y.dst u).putO x.dst v=((σ.withH H).putO x.dst v).putO y.dst u:=fun {H v u}=>zix (fun d hd e=>a2 d e (by rw[hd]))
 rcases hx with⟨DR,v,τ,sx,rfl⟩|⟨DR,rfl⟩
 .obtain⟨⟨H1,rfl⟩,Ud⟩:=zdA (ops:=ops) fx sx
  rcases hy with⟨NH,u,τ',sy,rfl⟩|⟨NH,rfl⟩
  .obtain⟨τ₁,t1,τ₂,t2,t3⟩:=sw sx sy
   obtain⟨⟨H3,rfl⟩,_⟩:=zdA (ops:=ops) fy t1;refine⟨_,⟨by rw[zez]at dy;exact dy,.inl ⟨by rw[<-wy (v:=v) (H:=H1)];exact NH,u,_,t1,rfl⟩⟩,⟨by rw[zez];exact dx,.inl ⟨by rw[wx];exact DR,v,τ₂,t2,t3.symm⟩⟩⟩
  .refine⟨σ.putO y.dst undefA,⟨by rw[zez]at dy;exact dy,.inr ⟨by rw[<-wy (v:=v) (H:=H1)];exact NH,rfl⟩⟩,⟨by rw[zez];exact dx,.inl ⟨by have:=wx (v:=undefA) (H:=σ.H);rw[zbh]at this;rw[this];exact DR,v,(σ.putO y.dst undefA).withH H1,?_,?_⟩⟩⟩
   .refine Ud _ (fun t ht=>?_) zbT
    exact((Yg.putO (σ:=σ) (v:=undefA) (ops:=ops) (o:=x) a3) t ht).symm
   .rw[<-Yc,comm]
 .rcases hy with⟨NH,u,τ',sy,rfl⟩|⟨NH,rfl⟩
  .obtain⟨⟨H1,rfl⟩,JY⟩:=zdA (ops:=ops) fy sy
   have Sf:=JY σ (Yg.putO (σ:=σ) (v:=undefA) (ops:=ops) (o:=y) a1) zbT.symm;refine⟨(σ.withH H1).putO y.dst u,⟨by rw[zez]at dy;exact dy,.inl ⟨by have:=wy (v:=undefA) (H:=σ.H);rw[zbh]at this;rw[<-this];exact NH,u,_,Sf,rfl⟩⟩,⟨by rw[zez];exact dx,.inr ⟨by rw[wx];exact DR,?_⟩⟩⟩;rw[comm,Yc,Yc,Yc]
  .refine⟨σ.putO y.dst undefA,⟨by rw[zez]at dy;exact dy,.inr ⟨by have:=wy (v:=undefA) (H:=σ.H);rw[zbh]at this;rw[<-this];exact NH,rfl⟩⟩,⟨by rw[zez];exact dx,.inr ⟨by have:=wx (v:=undefA) (H:=σ.H);rw[zbh]at this;rw[this];exact DR,?_⟩⟩⟩
   have:=comm (H:=σ.H) (v:=undefA) (u:=undefA);rw[zbh]at this;exact this.symm
theorem znD{bl:List (Nat×Nat)}{t b:Nat}(h:zjP bl t=some b):(t,b)∈bl:=by
 unfold zjP at h;cases hf:bl.find? (fun p=>p.1==t)with
 |none=>rw[hf]at h;simp at h
 |some p =>
  rw[hf]at h;have h1:=List.find?_some hf;have h2:=List.mem_of_find?_eq_some hf;simp at h h1;obtain⟨p1,p2⟩:=p;simp at h h1;subst h;subst h1;exact h2
theorem znc{bl:List (Nat×Nat)}{t t':Nat}{σ:St}(hg:zaN bl σ)(h:zjQ bl t t'=true):∃ b o b' o',σ.s t = .one (.ptr b o)/\σ.s t' = .one (.ptr b' o')/\b≠b':=by
 unfold zjQ at h;split at h
 .rename_i b b' h1 h2
  obtain⟨o,e1⟩:=hg _ (znD h1);obtain⟨o',e2⟩:=hg _ (znD h2);exact⟨b,o,b',o',e1,e2,by simpa using h⟩
 .cases h
theorem zxk{bl:List (Nat×Nat)}{x y:Oper}(UM:x.apart ops y=true)(YU:zdO bl x.op y.op=true){σ:St}(hg:zaN bl σ){v u:AV}{τ τ':St}(hx:ZU P m x σ v τ)(hy:ZU P m y (τ.putO x.dst v) u τ') :
  ∃ τ₁,ZU P m y σ u τ₁/\∃ τ₂,ZU P m x (τ₁.putO y.dst u) v τ₂/\τ₂.putO x.dst v=τ'.putO y.dst u:=by
 obtain⟨a1,a2,a3⟩:=Oper.apart_spec UM;have Jt:Zh x.op=true:=by
  unfold zdO at YU;split at YU<;>simp_all [Zh]
 have K6:Zh y.op=true:=by
  unfold zdO at YU;split at YU<;>simp_all [Zh]
 have R0:QZ m x.op≠.full:=by
  unfold zdO at YU;split at YU<;>simp_all [QZ]
 have Nk:QZ m y.op≠.full:=by
  unfold zdO at YU;split at YU<;>simp_all [QZ]
 obtain⟨⟨H1,rfl⟩,Ud⟩:=zdA (ops:=ops) R0 hx;obtain⟨⟨H2,rfl⟩,JY⟩:=zdA (ops:=ops) Nk hy;have UW:∀ {w:AV} {H:QD},Yg ops x σ.s ((σ.withH H).putO y.dst w).s:=fun {w} {H} t ht=>by
  rw[Yc];exact((Yg.putO (σ:=σ) (v:=w) (ops:=ops) (o:=x) a3) t ht).symm
 have JX:∀ {w:AV} {H:QD},Yg ops y ((σ.withH H).putO x.dst w).s σ.s:=fun {w} {H} t ht=>by
  rw[Yc];exact(Yg.putO (σ:=σ) (v:=w) (ops:=ops) (o:=y) a1) t ht
 have Y5:∀ H,((σ.withH H).putO y.dst u).putO x.dst v=((σ.withH H).putO x.dst v).putO y.dst u:=fun H=>zix (fun d hd e=>a2 d e (by rw[hd]))
 rw[zbt Jt]at hx;rw[zbt K6]at hy;obtain⟨x1,hv,x3⟩:=hx;obtain⟨y1,hu,y3⟩:=hy;have x3':opH P (x.dst.getD 0) (ev σ.s) σ.H x.op=H1:=congrArg St.H x3;have Hi:((σ.withH H1).putO x.dst v).H=H1:=by rw[zbT];rfl
 rw[Hi]at y1 y3 hu;obtain⟨c1,c2,c3⟩:=zf1 (P:=P) (d:=y.dst.getD 0) (H:=H1) (fun z hz=>(JX (w:=v) (H:=H1)).ev hz) K6;rw[c3]at y3;rw[c1]at y1;rw[c2]at hu;have y3':opH P (y.dst.getD 0) (ev σ.s) H1 y.op=H2:=congrArg St.H y3;have key:∃ H3,Zl P (y.dst.getD 0) (ev σ.s) σ.H y.op/\opV P (y.dst.getD 0) (ev σ.s) σ.H y.op=u/\opH P (y.dst.getD 0) (ev σ.s) σ.H y.op=H3 /\
   Zl P (x.dst.getD 0) (ev σ.s) H3 x.op/\opV P (x.dst.getD 0) (ev σ.s) H3 x.op=v/\opH P (x.dst.getD 0) (ev σ.s) H3 x.op=H2:=by
  clear c1 c2 c3 Ud JY UW JX Y5 R0 Nk Jt K6 y3 x3;unfold zdO at YU;split at YU
  .rename_i ty t ty' t' z ex ey
   obtain⟨b,o,b',o',e1,e2,hne⟩:=znc hg YU;rw[ex]at x1 hv x3' ⊢;rw[ey]at y1 hu y3' ⊢;simp only[opH]at x3';subst x3';refine⟨H2,y1,hu,y3',?_⟩;have hc:ZJ H2 (ev σ.s (.tmp t))=ZJ σ.H (ev σ.s (.tmp t)):=by
    rw[<-y3'];simp only[opH,ev,e1,e2,ZJ,upd];rw[Qb hne]
   simp only[Zl,opV,opH,hc]at x1 hv ⊢;exact⟨x1,hv,trivial⟩
  .rename_i ty' t' z ty t ex ey
   obtain⟨b,o,b',o',e1,e2,hne⟩:=znc hg YU;rw[ex]at x1 hv x3' ⊢;rw[ey]at y1 hu y3' ⊢;simp only[opH]at y3';subst y3';have hc:ZJ H1 (ev σ.s (.tmp t))=ZJ σ.H (ev σ.s (.tmp t)):=by
    rw[<-x3'];simp only[opH,ev,e1,e2,ZJ,upd];rw[Qb hne]
   simp only[Zl,opV,hc]at y1 hu ⊢;exact⟨σ.H,y1,hu,rfl,x1,hv,x3'⟩
  .cases YU
 obtain⟨H3,k1,k2,k3,k4,k5,k6⟩:=key;refine⟨σ.withH H3,?_,(σ.withH H2).putO y.dst u,?_,?_⟩
 .rw[zbt K6,k2,k3];exact⟨k1,rfl,rfl⟩
 .rw[zbt Jt]
  have Hk:((σ.withH H3).putO y.dst u).H=H3:=by rw[zbT];rfl
  obtain⟨d1,d2,d3⟩:=zf1 (P:=P) (d:=x.dst.getD 0) (H:=H3) (fun z hz=>(UW (w:=u) (H:=H3)).ev hz) Jt;rw[Hk,<-d1,<-d2,<-d3,k5,k6];exact⟨k4,rfl,by rw[<-Yc];rfl⟩
 .rw[show((σ.withH H1).putO x.dst v).withH H2=(σ.withH H2).putO x.dst v by rw[<-Yc];rfl,Y5]
theorem Sp.swapB{bl:List (Nat×Nat)}{x y:Oper}(VN:zfq m bl ops x y=true){σ σ₁ σ₂:St}(hg:zaN bl σ)(hx:Sp P m ops x σ σ₁)(hy:Sp P m ops y σ₁ σ₂):∃ σ₁',Sp P m ops y σ σ₁'/\Sp P m ops x σ₁' σ₂:=by
 unfold zfq at VN;rw[wag,wbE]at VN;obtain⟨h1,h2|h2⟩:=VN
 .have hA:zfp m ops x y=true:=by unfold zfp;rw[h1,h2];rfl
  obtain⟨fx,fy⟩:=zsZ hA;exact Sp.swap h1 fx fy (fun sx sy=>ztG hA sx sy) hx hy
 .have fx:QZ m x.op≠.full:=by
   unfold zdO at h2;split at h2<;>simp_all [QZ]
  have fy:QZ m y.op≠.full:=by
   unfold zdO at h2;split at h2<;>simp_all [QZ]
  exact Sp.swap h1 fx fy (fun sx sy=>zxk h1 h2 hg sx sy) hx hy
theorem zp2{σ:St}{d:Option Nat}{v:AV}{t:Nat}(h:d≠some t):(σ.putO d v).s t=σ.s t:=by
 cases d with
 |none=>rfl
 |some d =>
  have hn:d≠t:=fun e=>h (by rw[e])
  simp[St.putO,St.put,Ne.symm hn]
theorem zaN.step(ops:Array Oper){bl:List (Nat×Nat)}{o:Oper}{σ:St}(hg:zaN bl σ)(hk:zbF m bl o=true){v:AV}{τ:St}(h:ZU P m o σ v τ):zaN bl (τ.putO o.dst v):=by
 intro p hp;unfold zbF at hk;rw[wbE]at hk;rcases hk with hk|hk
 .rw[List.isEmpty_iff]at hk;subst hk;simp at hp
 .rw[wag]at hk
  obtain⟨⟨H1,rfl⟩,_⟩:=zdA (ops:=ops) (by simpa using hk.1) h;obtain⟨off,e⟩:=hg p hp;have:=wai.1 hk.2 p hp;exact⟨off,by rw[zp2 (by simpa using this)];exact e⟩
theorem zaN.undef{bl:List (Nat×Nat)}{o:Oper}{σ:St}(hg:zaN bl σ)(hk:zbF m bl o=true):zaN bl (σ.putO o.dst undefA):=by
 intro p hp;unfold zbF at hk;rw[wbE]at hk;rcases hk with hk|hk
 .rw[List.isEmpty_iff]at hk;subst hk;simp at hp
 .rw[wag]at hk
  obtain⟨off,e⟩:=hg p hp;have:=wai.1 hk.2 p hp;exact⟨off,by rw[zp2 (by simpa using this)];exact e⟩
theorem zaN.sp{bl:List (Nat×Nat)}{o:Oper}{σ σ':St}(hg:zaN bl σ)(hk:zbF m bl o=true)(h:Sp P m ops o σ σ'):zaN bl σ':=by
 obtain⟨_,⟨_,v,τ,h1,rfl⟩|⟨_,rfl⟩⟩:=h
 .exact hg.step ops hk h1
 .exact hg.undef hk
theorem zmC{bl:List (Nat×Nat)}{Q:St->Prop}{y:Oper}:∀ (l₁ l₂:List Oper) (σ:St),zaN bl σ->(∀ x∈l₁,zbF m bl x=true)->(∀ x∈l₁,zfq m bl ops x y=true)->Yf P m ops.toList Q (l₁++y::l₂) σ->Yf P m ops.toList Q (y::(l₁++l₂)) σ:=by
 intro l₁
 induction l₁ with
 |nil=>intro l₂ σ _ _ _ h;exact h
 |cons x l₁ ih =>
  intro l₂ σ hg hk VN h;rw[wb5,zgR]at h;obtain⟨σ₁,s1,h⟩:=h;have:=ih l₂ σ₁ (hg.sp (hk x (by simp)) s1) (fun z hz=>hk z (by simp[hz])) (fun z hz=>VN z (by simp[hz])) h;rw[zgR]at this;obtain⟨σ₂,s2,h2⟩:=this;obtain⟨σ₁',t1,t2⟩:=s1.swapB (VN x (by simp)) hg s2;rw[zgR];refine⟨σ₁',t1,?_⟩;rw[wb5,zgR];exact⟨σ₂,t2,h2⟩
theorem znd{Q:Exit->Act->World->Prop}{K:Act->World->Prop}{i:Nat}{o:Oper}(hi:ops[i]? = some o){Qa:St->Prop}{l:List Oper}{σ:St}{ρ:Nat->Option Nat}{ok:Nat->Prop}{a:Act}{w:World}
  {bl:List (Nat×Nat)} (U0:zaN bl σ) (VR:zbF m bl o=true) (h:SR ρ ok σ a w) (hr:Yf P m ops.toList Qa (o::l) σ)
  (hK:∀ σ' ρ' ok' a' w',zaN bl σ'->Yf P m ops.toList Qa l σ'->SR ρ' ok' σ' a' w'->Goes ρ ok w ρ' ok' w'->K a' w'):wpOp P ops Q i K a w:=by
 obtain⟨hd,hr⟩:=hr;unfold wpOp;simp only[hi];unfold BR at hr;split at hr
 .rename_i hw
  rw[Qc (zfM h hw)];have Jr:QW P m o σ fun v σ'=>zaN bl (σ'.putO o.dst v)/\Yf P m ops.toList Qa l (σ'.putO o.dst v):=by
   obtain⟨v,τ,h1,h2⟩:=ziv.1 hr;exact ziv.2 ⟨v,τ,h1,U0.step ops VR h1,h2⟩
  refine .inl (Oper.wp_mono ?_ (zkb h hd Jr));rintro a' w' ⟨x,v,τ,ρ',ok',hk,rfl,hx,K4,hg,hn⟩;exact hK _ ρ' ok' _ w' hk.1 hk.2 (K4.putA (by rw[hn];exact hd) hx) hg
 .rename_i hw
  rw[Qb (by rw[zfM h hw];simp)];exact hK _ ρ ok _ w (U0.undef VR) hr (h.undefA hd) (Goes.refl _ _ _)
 .exact hr.elim
def zjx(ops:Array Oper)(listed:Array Bool):Prop :=
 ∀ j o,ops[j]? = some o->listed.getD j false=true->∀ e∈o.after,Region.binds .any e=true->listed.getD e.on false=true
theorem zj5{listed:Array Bool}(hc:zjx ops listed):∀ (f k i:Nat) (o:Oper),ops[i]? = some o->(∀ e∈o.after,Region.binds .any e=true->listed.getD e.on false=true) ->
  zdl ops f k i=true->listed.getD k false=true\/ops.size<=k:=by
 intro f
 induction f with
 |zero=>intro k i o _ _ h;simp[zdl]at h
 |succ f ih =>
  intro k i o ho hall h;simp only[zdl,ho,wbz,wag,wbE,beq_iff_eq]at h;obtain⟨e,he,hb,h1|h1⟩:=h
  .subst h1;exact .inl (hall e (by simpa using he) hb)
  .have hl:=hall e (by simpa using he) hb
   cases Lg:ops[e.on]? with
   |none=>cases f<;>simp[zdl,Lg]at h1
   |some o'=>exact ih k e.on o' Lg (fun e' GJ hb'=>hc e.on o' Lg hl e' GJ hb') h1
def Zn(ops:Array Oper)(l:List Nat):List Oper:=l.filterMap (ops[·]?)
theorem znE{bl:List (Nat×Nat)}{tk:List Nat}(YM:zcP tk m bl ops=true){Qa:St->Prop}{Q:Exit->Act->World->Prop} :
  ∀ (fuel:Nat) (l:List Nat) (listed:Array Bool) (σ:St) (ρ:Nat->Option Nat) (ok:Nat->Prop) (a:Act) (w:World),l.Pairwise (·<·)->(∀ i,i∈l↔i<ops.size/\listed.getD i true=false)->(∀ i∈l,tk.contains i=false)->zjx ops listed->listed.size=ops.size ->
   l.length<=fuel->SR ρ ok σ a w->zaN bl σ->Yf P m ops.toList Qa (Zn ops l) σ ->
   (∀ σ' ρ' ok' a' w',Qa σ'->SR ρ' ok' σ' a' w'->Goes ρ ok w ρ' ok' w'->Q .normal a' w')->wpAny P .any ops Q fuel listed a w:=by
 intro fuel
 induction fuel with
 |zero =>
  intro l listed σ ρ ok a w hp hl Wk hc XE Y0 h U0 hr hq;have:l=[]:=wbd.1 (by omega);subst this;refine⟨?_,hq σ ρ ok a w hr h (Goes.refl _ _ _)⟩;cases Dw:Region.ready .any ops listed with
  |nil=>rfl
  |cons i t =>
   have:i∈Region.ready .any ops listed:=by rw[Dw];simp
   obtain⟨h1,o,ho,_⟩:=mem_ready.1 this;have Yw:i<ops.size:=(wde.1 ho).1;have:=(hl i).2 ⟨Yw,h1⟩;simp at this
 |succ fuel ih =>
  intro l listed σ ρ ok a w hp hl Wk hc XE Y0 h U0 hr hq;refine⟨fun Dw=>?_,fun i hi=>?_⟩
  .cases l with
   |nil=>exact hq σ ρ ok a w hr h (Goes.refl _ _ _)
   |cons i l =>
    exfalso;obtain⟨hi,RD⟩:=(hl i).1 (by simp);have Jh:i∉Region.ready .any ops listed:=by rw[Dw];simp
    rw[mem_ready]at Jh;have ho:ops[i]? = some ops[i]:=by simp[hi]
    refine Jh ⟨RD,ops[i],ho,fun e he hb=>?_⟩;unfold zcP at YM;rw[wag]at YM
    replace YM:=YM.2
    rw[wai]at YM;have h1:=YM i (by simpa using hi);rw[Wk i (by simp),wb7,wag]at h1;have h2:=h1.1;simp only[zhb,ho]at h2;rw[wai]at h2;have Yw:e.on<i:=by simpa[hb]using h2 e (by simpa using he)
    cases YZ:listed.getD e.on true with
    |true =>
     have:e.on<listed.size:=by omega
     simpa[this]using YZ
    |false =>
     have Uk:=(hl e.on).2 ⟨by omega,YZ⟩;rcases wab.1 Uk with h3|h3
     .omega
     .have:=wdH hp h3;omega
  .obtain⟨RD,o,ho,hall⟩:=mem_ready.1 hi
   have Yw:i<ops.size:=(wde.1 ho).1;have Uk:=(hl i).2 ⟨Yw,RD⟩;obtain⟨l₁,l₂,rfl⟩:=List.append_of_mem Uk;have WO:∀ (j:Nat) (x:Oper),ops[j]? = some x->zbF m bl x=true:=by
    intro j x hx;unfold zcP at YM;rw[wag]at YM;exact wai.1 YM.1 x (by simpa using Array.mem_of_getElem? hx)
   have KA:∀ x∈Zn ops l₁,zbF m bl x=true:=by
    intro x hx;unfold Zn at hx;obtain⟨k,_,Wx⟩:=wdD.1 hx;exact WO k x Wx
   have VN:∀ x∈Zn ops l₁,zfq m bl ops x o=true:=by
    intro x hx;unfold Zn at hx;obtain⟨k,hk,Wx⟩:=wdD.1 hx;have Ku:k<i:=by
     have:=wch.1 hp;exact this.2.2 k hk i (by simp)
    unfold zcP at YM;rw[wag]at YM
    replace YM:=YM.2
    rw[wai]at YM;have h1:=YM i (by simpa using Yw);rw[Wk i (by simp),wb7,wag,wai]at h1;have h2:=h1.2 k (by simpa using Ku);rw[Wk k (by simp[hk]),wb7]at h2;simp only[Wx,ho,wbE]at h2;rcases h2 with h2|h2
    .exact h2
    .exfalso
     have RE:=((hl k).1 (by simp[hk])).2;rcases zj5 hc (i+1) k i o ho hall h2 with h3|h3
     .have:k<listed.size:=by omega
      simp[this]at RE h3;rw[RE]at h3;cases h3
     .omega
   have Ny:Zn ops (l₁++i::l₂)=Zn ops l₁++o::Zn ops l₂:=by
    simp[Zn,ho]
   rw[Ny]at hr;have VE:=zmC (Zn ops l₁) (Zn ops l₂) σ U0 KA VN hr;refine znd ho U0 (WO i o ho) h VE fun σ' ρ' ok' a' w' Dy Jr h' Gs=>?_
   have Ji:Zn ops l₁++Zn ops l₂=Zn ops (l₁++l₂):=by simp[Zn]
   rw[Ji]at Jr;have NS:i∉l₁/\i∉l₂:=by
    have Wi:=wch.1 hp;refine⟨fun hm=>?_,fun hm=>?_⟩
    .have:=Wi.2.2 i hm i (by simp);omega
    .have:=wdH Wi.2.1 hm;omega
   refine ih (l₁++l₂) (listed.setIfInBounds i true) σ' ρ' ok' a' w' ?_ ?_ (fun k hk=>Wk k (by rcases wan.1 hk with h|h<;>simp[h])) ?_ (by simpa using XE) ?_ h' Dy Jr (fun σ'' ρ'' ok'' a'' w'' q s g=>hq σ'' ρ'' ok'' a'' w'' q s (Gs.trans g))
   .have Wi:=wch.1 hp
    exact wch.2 ⟨Wi.1,(wbL.1 Wi.2.1).2,fun x hx y hy=>Wi.2.2 x hx y (by simp[hy])⟩
   .intro k
    have XR:=hl k;by_cases Ku:k=i
    .subst Ku
     simp only[wan];constructor
     .rintro(h1|h1)
      .exact Qo h1 NS.1
      .exact Qo h1 NS.2
     .rintro⟨_,h1⟩
      simp[XE,Yw]at h1
    .rw[getD_set_ne true (Ne.symm Ku),<-XR]
     simp[Ku]
   .intro j oj hj VH e he hb
    by_cases K5:j=i
    .subst K5
     rw[ho]at hj;cases hj
     exact getD_set_true (hall e he hb)
    .rw[getD_set_ne false (Ne.symm K5)]at VH
     exact getD_set_true (hc j oj hj VH e he hb)
   .simp at Y0 ⊢;omega
end
def zd5(ρ:Nat->Option Nat)(ok:Nat->Prop)(w:World)(Q:Exit->St->Prop):Exit->Act->World->Prop :=
 fun e a' w'=>∃ σ' ρ' ok',Q e σ'/\SR ρ' ok' σ' a' w'/\Goes ρ ok w ρ' ok' w'
theorem zd5.trans{ρ ρ₁:Nat->Option Nat}{ok ok₁:Nat->Prop}{w w₁:World}{Q:Exit->St->Prop}(hg:Goes ρ ok w ρ₁ ok₁ w₁):∀ e a w',zd5 ρ₁ ok₁ w₁ Q e a w'->zd5 ρ ok w Q e a w' :=
 fun _ _ _ ⟨σ',ρ',ok',q,s,g⟩=>⟨σ',ρ',ok',q,s,hg.trans g⟩
section
variable {P:Program}
def zzA(K:St->Prop):Exit->St->Prop
 |.normal,σ=>K σ
 |_,_=>False
theorem SR.drawn{σ:St}{ρ:Nat->Option Nat}{ok:Nat->Prop}{a:Act}{w:World}(h:SR ρ ok σ a w):SR ρ ok σ a { w with drawn:=w.drawn+1 }/\Goes ρ ok w ρ ok { w with drawn:=w.drawn+1 }:=by
 have hk:zai ok w { w with drawn:=w.drawn+1 }:=fun _ _=>rfl
 exact⟨⟨⟨fun b cs hb=>let ⟨c,arr,el,h1,h2,h3,h4⟩:=h.heap b cs hb;⟨c,arr,el,h1,h2,h3,fun j hj Yz=>(h4 j hj Yz).mono hk (fun _ h=>h) (fun _ _ _ h=>h) (fun _ _ h=>h)⟩,h.dom,h.inj,h.okR⟩,
      h.size,fun t=>h.lift hk (fun _ h=>h) (fun _ _ _ h=>h) (fun _ _ h=>h) t,h.defers,h.small⟩,
   ⟨Qd _,fun _ _ _=>rfl,fun _ _ _ h=>h,fun b _ h=>.inl ⟨b,h⟩,fun _ h=>h,fun _ h=>.inl h,fun _ _=>.inl rfl,⟨rfl,rfl⟩⟩⟩
theorem zs7(hm:P.follows .mixedOrders=true){id:Nat}{ops:Array Oper}{q:St->Prop}{σ:St}{ρ:Nat->Option Nat}{ok:Nat->Prop}{a:Act}{w:World}(h:SR ρ ok σ a w)(hr:QN P ops q ops.size (Array.replicate ops.size false) σ) :
  (Code.region id ops true).wp P (zd5 ρ ok w (zzA q)) a w:=by
 have hd:=h.drawn;exact wp_region_any hm (hr ρ ok a _ hd.1 _ (fun c a w ⟨_,_,_,hq,_⟩=>hq) (fun σ' ρ' ok' a' w' q1 s1 g1=>⟨σ',ρ',ok',q1,s1,hd.2.trans g1⟩))
theorem QN.weaken{ops:Array Oper}{q:St->Prop}{fuel:Nat}{listed:Array Bool}{σ σ':St}(hg:Abs.GStep σ σ')(h:QN P ops q fuel listed σ'):QN P ops q fuel listed σ:=by
 intro ρ ok a w hs Q' hp hn;obtain⟨ρ',ok',Js,g⟩:=hg ρ ok a w hs;exact h ρ' ok' a w Js Q' hp (fun σ'' ρ'' ok'' a'' w'' q1 s1 g1=>hn σ'' ρ'' ok'' a'' w'' q1 s1 (g.trans g1))
theorem QN.mono{ops:Array Oper}{q q':St->Prop}{fuel:Nat}{listed:Array Bool}{σ:St}(hq:∀ σ,q σ->q' σ)(h:QN P ops q fuel listed σ):QN P ops q' fuel listed σ :=
 fun ρ ok a w hs Q' hp hn=>h ρ ok a w hs Q' hp fun σ'' ρ'' ok'' a'' w'' q1 s1 g1=>hn σ'' ρ'' ok'' a'' w'' (hq _ q1) s1 g1
theorem zsa(hm:P.follows .mixedOrders=true){id:Nat}{ops:Array Oper}{draw:Bool}{Q:Exit->St->Prop}{σ:St}{ρ:Nat->Option Nat}{ok:Nat->Prop}{a:Act}{w:World}(h:SR ρ ok σ a w)
  (hr:wpA P (.region id ops draw) Q σ):(Code.region id ops draw).wp P (zd5 ρ ok w Q) a w:=by
 cases draw with
 |false =>
  simp only[wpA,wa4,if_false]at hr;exact wp_region_list (ztF ops.toList σ ρ ok a w h hr fun σ' ρ' ok' a' w' q s g=>⟨σ',ρ',ok',q,s,g⟩)
 |true =>
  simp only[wpA,if_true]at hr;rcases hr with hr|hr
  case inr =>
   refine Code.wp_mono ?_ (zs7 hm h hr);rintro e a' w' ⟨σ',ρ',ok',q,s,g⟩;cases e with
   |normal=>exact⟨σ',ρ',ok',q,s,g⟩
   |_=>exact q.elim
  obtain⟨m,bl,σ1,Gv,YM,U0,hr⟩:=hr;have hd:SR ρ ok σ a { w with drawn:=w.drawn+1 }:=by
   have hk:zai ok w { w with drawn:=w.drawn+1 }:=fun _ _=>rfl
   exact⟨⟨fun b cs hb=>let ⟨c,arr,el,h1,h2,h3,h4⟩:=h.heap b cs hb;⟨c,arr,el,h1,h2,h3,fun j hj Yz=>(h4 j hj Yz).mono hk (fun _ h=>h) (fun _ _ _ h=>h) (fun _ _ h=>h)⟩,h.dom,h.inj,h.okR⟩,
    h.size,fun t=>h.lift hk (fun _ h=>h) (fun _ _ _ h=>h) (fun _ _ h=>h) t,h.defers,h.small⟩
  have hg:Goes ρ ok w ρ ok { w with drawn:=w.drawn+1 }:=⟨Qd _,fun _ _ _=>rfl,fun _ _ _ h=>h,fun b _ h=>.inl ⟨b,h⟩,fun _ h=>h,fun _ h=>.inl h,fun _ _=>.inl rfl,⟨rfl,rfl⟩⟩
  obtain⟨ρ1,ok1,hd,UF⟩:=Gv ρ ok a _ hd
  replace hg:=hg.trans UF
  have VO:Zn ops (List.range ops.size)=ops.toList:=by
   unfold Zn;apply List.ext_getElem?;intro i;have key:∀ (n:Nat),n<=ops.size->(List.range n).filterMap (ops[·]?)=ops.toList.take n:=by
    intro n
    induction n with
    |zero=>simp
    |succ n ih =>
     intro hn;rw[wc8,List.filterMap_append,ih (by omega)];have:n<ops.size:=by omega
     simp[this,List.take_add_one]
   rw[key _ (Qd _),waL (by simp)]
  refine wp_region_any hm (znE (zs0 YM) ops.size (List.range ops.size) _ σ1 ρ1 ok1 a _ wdo (fun i=>?_) (fun _ _=>rfl) (fun j o _ hl=>?_) (by simp) (by simp) hd U0 (by rw[VO];exact hr) fun σ' ρ' ok' a' w' q s g=>⟨σ',ρ',ok',q,s,hg.trans g⟩)
  .simp only[waJ]
   constructor
   .intro hi;exact⟨hi,by simp[hi]⟩
   .exact fun hi=>hi.1
  .exfalso
   by_cases hj:j<ops.size
   .simp[hj]at hl
   .simp[hj]at hl
theorem zdD(hm:P.follows .mixedOrders=true):∀ (c:Code) (Q:Exit->St->Prop) (σ:St) (ρ:Nat->Option Nat) (ok:Nat->Prop) (a:Act) (w:World),SR ρ ok σ a w->wpA P c Q σ->c.wp P (zd5 ρ ok w Q) a w:=by
 intro c
 induction c with
 |skip=>intro Q σ ρ ok a w h hr;exact wp_skip ⟨σ,ρ,ok,hr,h,Goes.refl _ _ _⟩
 |region id ops draw=>intro Q σ ρ ok a w h hr;exact zsa hm h hr
 |seq x y ihx ihy =>
  intro Q σ ρ ok a w h hr;refine wp_seq (Code.wp_mono ?_ (ihx _ σ ρ ok a w h hr));rintro e a' w' ⟨σ',ρ',ok',q,s,g⟩;cases e with
  |normal=>exact Code.wp_mono (zd5.trans g) (ihy Q σ' ρ' ok' a' w' s q)
  |_=>exact⟨σ',ρ',ok',q,s,g⟩
 |cond c x y ihx ihy =>
  intro Q σ ρ ok a w h hr;simp only[wpA,BR]at hr;split at hr
  .rename_i hb
   exact wp_cond_true ((Zj h c).boolOf hb) (ihx Q σ ρ ok a w h hr)
  .rename_i hb
   exact wp_cond_false ((Zj h c).boolOf hb) (ihy Q σ ρ ok a w h hr)
  .exact hr.elim
 |block id c ih =>
  intro Q σ ρ ok a w h hr;refine wp_block (Code.wp_mono ?_ (ih _ σ ρ ok a w h hr));rintro e a' w' ⟨σ',ρ',ok',q,s,g⟩;cases e with
  |exit id' =>
   simp only[zfr]at q;simp only[Exit.inBlock];split
   .rename_i he;rw[Qc he]at q;exact⟨σ',ρ',ok',q,s,g⟩
   .rename_i he;rw[Qb he]at q;exact⟨σ',ρ',ok',q,s,g⟩
  |_=>exact⟨σ',ρ',ok',q,s,g⟩
 |loop c ih =>
  intro Q σ ρ ok a w h hr b kk cs;obtain⟨k,hr⟩:=hr;have key:∀ (k:Nat) (σ:St) (ρ:Nat->Option Nat) (ok:Nat->Prop) (a:Act) (w:World),SR ρ ok σ a w->zdm (wpA P c) Q k σ ->
    ∃ e a' w',zd5 ρ ok w Q e a' w'/\Arrives P (lone (b.at a (.code c::.inLoop c::kk)) cs w) b kk cs e a' w':=by
   intro k
   induction k with
   |zero=>intro σ ρ ok a w _ hr;exact hr.elim
   |succ k ihk =>
    rintro σ ρ ok a w h ⟨σ₀,hG,hr⟩;obtain⟨ρ₀,ok₀,h₀,g₀⟩:=hG ρ ok a w h;obtain⟨e,a₁,w₁,⟨σ',ρ',ok',q,s,g⟩,Ki⟩:=ih _ σ₀ ρ₀ ok₀ a w h₀ hr b (.inLoop c::kk) cs;have gg:=g₀.trans g;cases e with
    |normal =>
     obtain⟨e₂,a₂,w₂,hq₂,harr₂⟩:=ihk σ' ρ' ok' a₁ w₁ s q;exact⟨e₂,a₂,w₂,zd5.trans gg _ _ _ hq₂,.of_steps (Steps.trans Ki (.one step_inLoop)) harr₂⟩
    |_=>exact⟨_,a₁,w₁,⟨σ',ρ',ok',q,s,gg⟩,.pass (x:=.inLoop c) rfl (fun _ _=>.inl (by simp)) Ki⟩
  obtain⟨e,a',w',hq,Ki⟩:=key k σ ρ ok a w h hr;exact⟨e,a',w',hq,.of_steps (.one step_loop) Ki⟩
 |exit id=>intro Q σ ρ ok a w h hr;exact wp_exit ⟨σ,ρ,ok,hr,h,Goes.refl _ _ _⟩
 |ret=>intro Q σ ρ ok a w h hr;exact wp_ret ⟨σ,ρ,ok,hr,h,Goes.refl _ _ _⟩
 |rangeFunc=>intro Q σ ρ ok a w h hr;exact hr.elim
 |scope=>intro Q σ ρ ok a w h hr;exact hr.elim
 |label=>intro Q σ ρ ok a w h hr;exact hr.elim
 |goto=>intro Q σ ρ ok a w h hr;exact hr.elim
 |refuse=>intro Q σ ρ ok a w h hr;exact hr.elim
inductive FzC(H:QD):C->T->Prop where
 |t {x:T}:FzC H (.t x) x
 |junk {c:C}:FzC H c .junk
 |weak {nl:Option Bool} {xs:List (List T)}:FzC H (.t (.seq nl xs)) (.seq none xs)
 |vec {b sz off len:Nat} {cs:List C} {xs:List (List T)} {nl:Option Bool}:nl≠some true->H b=some cs->xs.length=len->(∀ x∈xs,x.length=sz)->off+len*sz<=cs.length ->
   (∀ i (hi:i<xs.length) j (hj:j<xs[i].length) (h:off+(i*sz+j)<cs.length),FzC H cs[off+(i*sz+j)] (xs[i][j]))->FzC H (.vec b sz off len) (.seq nl xs)
inductive FzA(H:QD):AV->TV->Prop where
 |one {c:C} {x:T}:FzC H c x->FzA H (.one c) (.one x)
 |ip {cs:List T}:FzA H (.iptr cs) (.ip cs)
 |agg {cs:List C} {xs:List T}:xs.length=cs.length->(∀ j (h:j<cs.length) (h':j<xs.length),FzC H cs[j] xs[j])->FzA H (.agg cs) (.agg xs)
 |tup {vs:List AV} {xs:List TV}:xs.length=vs.length->(∀ j (h:j<vs.length) (h':j<xs.length),FzA H vs[j] xs[j])->FzA H (.tup vs) (.tup xs)
def zbe(ok:Nat->Prop)(ρ:Nat->Option Nat):Nat->Prop:=fun n=>ok n\/∃ b,ρ b=some n
theorem FzC.sound{ρ:Nat->Option Nat}{ok:Nat->Prop}{H:QD}{w:World}(hH:HR ρ ok H w){c:C}{x:T}(hf:FzC H c x):∀ {v:Value},RC w ok ρ c v->RT w (zbe ok ρ) x v:=by
 induction hf with
 |t=>intro v h;cases h with|t h=>exact h.mono (fun _ _=>rfl) (fun _ h=>.inl h)
 |junk=>intro v h;exact .junk h.oneCell
 |weak =>
  intro v h;cases h with
  |t h =>
   have h:=h.mono (w':=w) (ok':=zbe ok ρ) (fun _ _=>rfl) (fun _ h=>.inl h);cases h with|seq g1 g2 g0 g3 g4 g5 g6 g7 g8=>exact .seq g1 g2 g0 (fun e=>by cases e) (fun e=>by cases e) g5 g6 g7 g8
 |@vec b sz off len cs xs nl Sx hb Y0 XE Xw _ ih =>
  intro v h;cases h with
  |vec h1 h2 h3 h4 =>
   rename_i cap c n;obtain⟨c',arr,el,e1,e2,e3,e4⟩:=hH.heap b cs hb;rw[h1]at e1;cases e1
   subst Y0;have Jn:∀ i (hi:i<xs.length) j,j<xs[i].length->off+(i*sz+j)<cs.length:=fun i hi j hj=>by
    have h5:=XE _ (Qh hi);have:(i+1)*sz<=xs.length*sz:=wak _ hi;rw[waX]at this;omega
   refine .seq (sz:=sz) (blk:=c) (off:=off) (u:=fun i j=>arr.getD (off+(i*sz+j)) undef) rfl h2 (fun e=>by cases e) (fun e=>Qo e Sx) (fun _=>by simp) XE (fun _=>⟨rfl,.inr ⟨b,h1⟩⟩) (fun i hi j hj=>?_) (fun i hi j hj=>?_)
   .have hb':=Jn i hi j hj
    have:off+(i*sz+j)<arr.size:=by omega
    simp[World.cell?,e2,this]
   .have hb':=Jn i hi j hj
    have Yw:off+(i*sz+j)<arr.size:=by omega
    have:=ih i hi j hj hb' (e4 _ hb' Yw);simpa[Yw]using this
theorem FzA.sound{ρ:Nat->Option Nat}{ok:Nat->Prop}{H:QD}{w:World}(hH:HR ρ ok H w){x:AV}{t:TV}(hf:FzA H x t):∀ {v:Value},RA w ok ρ x v->RA w (zbe ok ρ) noρ (emb t) v:=by
 induction hf with
 |one hf=>intro v h;cases h with|one h=>exact .one (.t (hf.sound hH h))
 |ip=>intro v h;cases h with|iptr h1 h2 h3=>exact .iptr (.inl h1) h2 fun j hj=>(h3 j hj).mono (fun _ _=>rfl) (fun _ h=>.inl h)
 |agg h1 h2 =>
  intro v h;cases h with
  |agg g1 g2 =>
   refine .agg (by simp;omega) fun j hj Yz=>?_
   simp only[Qm]at hj;simp only[Qq];exact .t ((h2 j (by omega) hj).sound hH (g2 j (by omega) Yz))
 |tup h1 h2 ih =>
  intro v h;cases h with
  |tup g1 g2 =>
   rename_i vs xs us;refine .tup (by rw[zgN];omega) fun j hj Yz=>?_
   have X1:=hj;rw[zgN]at X1;rw[zg9 xs j hj X1];exact ih j (by omega) X1 (g2 j (by omega) Yz)
def zal(P:Program)(σ:St):ResultVar->Prop
 |.tmp _=>True
 |.cell a t=>tok P t=true/\(ZJ σ.H (σ.s a)).isSome=true/\(if tagg P t then tsize P t else 1)<=((ZJ σ.H (σ.s a)).getD []).length
def zaT(P:Program)(σ:St):ResultVar->AV
 |.tmp t=>σ.s t
 |.cell a t=>if tagg P t then .agg (((ZJ σ.H (σ.s a)).getD []).take (tsize P t))else .one (((ZJ σ.H (σ.s a)).getD []).headD default)
def zb7(P:Program)(rs:List ResultVar)(σ:St):AV :=
 match rs with
 |[r]=>zaT P σ r
 |rs=>.tup (rs.map (zaT P σ))
theorem zs8{ρ:Nat->Option Nat}{ok:Nat->Prop}{σ:St}{a:Act}{w:World}(h:SR ρ ok σ a w){r:ResultVar}(hr:zal P σ r) :
  ∀ (g:ResultVar->Sem Value),(∀ t,g (.tmp t)=pure (a.tmps.getD t undef))->(∀ x t,g (.cell x t)=(do loadVar t (<-asAddr (a.tmps.getD x undef)))) ->
  ∃ v,(g r).run P w = .ok v w/\RA w ok ρ (zaT P σ r) v:=by
 intro g UF Wc;cases r with
 |tmp t=>exact⟨_,by rw[UF];rfl,h.slots t⟩
 |cell x t =>
  obtain⟨h1,h2,h3⟩:=hr;obtain⟨cs,YL⟩:=wba.1 h2;simp only[zaT];rw[YL]at h3 ⊢;simp only[waV]at h3 ⊢;obtain⟨c,off,hv,u,hu,Fd⟩:=zmD h (h.slots x) YL;refine⟨if tagg P t then .agg ((List.range (tsize P t)).map u).toArray else u 0,?_,?_⟩
  .rw[Wc,Sem.run_bind,hv]
   simp only[asAddr,Sem.run_pure,Result.andThen];exact zmO h1 u (fun j hj=>hu j (by omega))
  .cases hg:tagg P t with
   |true =>
    simp only[hg,if_true]at h3;simp only[if_true];refine .agg (by simp;omega) fun j hj Yz=>?_
    simp at hj Yz;simpa using Fd j (by omega)
   |false =>
    simp only[hg,wa4,if_false]at h3;simp only[wa4,if_false];cases cs with
    |nil=>simp at h3
    |cons c0 l=>exact .one (Fd 0 (by simp))
theorem zdv{ρ:Nat->Option Nat}{ok:Nat->Prop}{σ:St}{a:Act}{w:World}(h:SR ρ ok σ a w){fn:Func}(hr:∀ r∈fn.results.toList,zal P σ r) :
  ∃ v,(results fn a.tmps).run P w = .ok v w/\RA w ok ρ (zb7 P fn.results.toList σ) v:=by
 obtain⟨g,JM,UF,Wc⟩:∃ g:ResultVar->Sem Value,results fn a.tmps=(do let vs <-fn.results.mapM g;pure (if h:vs.size=1 then vs[0]else .tuple vs))/\(∀ t,g (.tmp t)=pure (a.tmps.getD t undef)) /\
   (∀ x t,g (.cell x t)=(do loadVar t (<-asAddr (a.tmps.getD x undef)))):=⟨_,rfl,fun _=>rfl,fun _ _=>rfl⟩
 have key:∀ (l:List ResultVar),(∀ r∈l,zal P σ r)->∃ vs:List Value,(l.mapM g).run P w = .ok vs w /\
   vs.length=l.length/\∀ i (hi:i<l.length) (Y6:i<vs.length),RA w ok ρ (zaT P σ l[i]) vs[i]:=by
  intro l
  induction l with
  |nil=>intro _;exact⟨[],rfl,rfl,fun i hi=>by simp at hi⟩
  |cons r l ih =>
   intro hl;obtain⟨v,r1,r2⟩:=zs8 (P:=P) h (hl r (by simp)) g UF Wc;obtain⟨vs,s1,s2,s3⟩:=ih fun r hr=>hl r (by simp[hr])
   refine⟨v::vs,?_,by simp[s2],fun i hi Y6=>?_⟩
   .rw[List.mapM_cons,Sem.run_bind,r1]
    simp only[Result.andThen];rw[Sem.run_bind,s1];rfl
   .cases i with
    |zero=>exact r2
    |succ i=>exact s3 i (by simpa using hi) (by simpa using Y6)
 obtain⟨vs,s1,s2,s3⟩:=key fn.results.toList hr;have Xc:∀ v,(if h:vs.toArray.size=1 then vs.toArray[0]else .tuple vs.toArray)=v->(results fn a.tmps).run P w = .ok v w:=by
  intro v hv;rw[JM];have e:fn.results=fn.results.toList.toArray:=rfl;rw[e,List.mapM_toArray,Sem.run_bind,Sem.run_map,s1];simp only[Result.andThen,Sem.run_pure];rw[hv]
 refine⟨_,Xc _ rfl,?_⟩;unfold zb7;split
 .rename_i r YT
  rw[YT]at s2 s3;have h1:vs.toArray.size=1:=by simpa using s2
  rw[dif_pos h1];have:=s3 0 (by simp) (by simp at s2;omega);simpa using this
 .rename_i rs hne
  have h1:¬vs.toArray.size=1:=by
   intro e;simp only[List.size_toArray]at e;rw[s2]at e
   match YT:fn.results.toList,e with
   |[r],_=>exact hne r YT
  rw[dif_neg h1];refine .tup (by simpa using s2) fun j hj Yz=>?_
  simp only[Qq,wcf];exact s3 j (by simpa using hj) (by simpa using Yz)
def zbb(n:Nat)(args:List AV)(H:QD):St:=⟨n,fun t=>args.getD t undefA,H⟩
def noH:QD:=fun _=>none
def zdt(P:Program)(rs:List ResultVar)(r:TV)(e:Exit)(σ:St):Prop :=
 (e = .normal\/e = .ret)/\(∀ x∈rs,zal P σ x)/\FzA σ.H (zb7 P rs σ) r
theorem zdP{n:Nat}{args:List AV}{vs:Array Value}{ρ:Nat->Option Nat}{ok:Nat->Prop}{H:QD}{w:World}(hH:HR ρ ok H w)(hv:zaH w ok ρ args vs)(hn:vs.size<=n)(Vt:n<=PIN) :
  SR ρ ok (zbb n args H) { tmps:=vs++Array.replicate (n-vs.size) undef,defers:=[] } w:=by
 refine⟨hH,by simp[zbb];omega,fun t=>?_,rfl,Vt⟩;simp only[zbb];by_cases ht:t<vs.size
 .have Fe:t<args.length:=by rw[<-hv.1];exact ht
  have e1:args.getD t undefA=args[t]:=by simp[Fe]
  have e2:(vs++Array.replicate (n-vs.size) undef).getD t undef=vs[t]:=by
   simp[Array.getElem?_append_left ht,ht]
  rw[e1,e2];exact hv.2 t Fe ht
 .have Fe:¬t<args.length:=by rw[<-hv.1];exact ht
  have e1:args.getD t undefA=undefA:=by simp[Fe]
  have e2:(vs++Array.replicate (n-vs.size) undef).getD t undef=undef:=by
   rw[wcg,Array.getElem?_append_right (by omega)];by_cases h2:t-vs.size<n-vs.size
   .simp[h2]
   .simp[h2]
  rw[e1,e2];exact .tup rfl fun j hj=>by simp at hj
theorem zrV(hm:P.follows .mixedOrders=true){f:FuncId}{fn:Func}{c:Code}{args:List TV}{r:TV}(Xb:∀ (as:Array Value) w,(callFunc f as).run P w = .ok (.enter f as) w)(hf:P.funcs[f]? = some fn)(hb:fn.body=some c)
  (hn:args.length<=fn.ntmps) (Vt:fn.ntmps<=PIN) (h:wpA P c (zdt P fn.results.toList r) (zbb fn.ntmps (args.map emb) noH)):Q9 P f args r:=by
 refine⟨Xb,fun ok w vs YA hv=>calls_of_wp hf hb (Code.wp_mono ?_ (zdD hm c _ _ noρ ok _ w (zdP ⟨fun b cs hb=>(by cases hb),fun _ _=>rfl,fun _ _ _ h=>(by cases h),fun n hn=>⟨YA n hn,fun _ h=>(by cases h)⟩⟩ hv (by rw[hv.1];simpa using hn) Vt) h))⟩;rintro e a w' ⟨σ,ρ',ok',⟨he,YX,Ej⟩,s,g⟩;obtain⟨v,r1,r2⟩:=zdv s YX;have Ur:∀ n,zbe ok' ρ' n->n<w'.heap.size:=fun n hn=>by
  rcases hn with hn|⟨b,hb⟩
  .exact(s.okR n hn).1
  .exact Yb s.toHR hb
 have Wc:Goes noρ ok w noρ (zbe ok' ρ') w':=by
  refine⟨g.size,g.same,g.shape,fun b n hb=>(by cases hb),fun n hn=>.inl (g.up n hn),fun n hn=>?_,fun _ _=>.inl rfl,g.env⟩;rcases hn with hn|⟨b,hb⟩
  .exact g.down n hn
  .rcases g.img b n hb with⟨b',h1⟩|h1
   .cases h1
   .exact .inr (.inr h1)
 have Y5:a.defers=[]/\∃ v,(results fn a.tmps).run P w' = .ok v w'/\∃ v' ok',Ending.returned v = .returned v'/\RA w' ok' noρ (emb r) v'/\Goes noρ ok w noρ ok' w'/\∀ n,ok' n->n<w'.heap.size :=
  ⟨s.defers,v,r1,v,zbe ok' ρ',rfl,Ej.sound s.toHR r2,Wc,Ur⟩
 rcases he with rfl|rfl<;>exact Y5
theorem QJ(hm:P.follows .mixedOrders=true){f:FuncId}{fn:Func}{c:Code}{n:Nat}{rs:List ResultVar}{args:List TV}{r:TV}(Xb:∀ (as:Array Value) w,(callFunc f as).run P w = .ok (.enter f as) w)(hf:P.funcs[f]? = some fn)
  (hb:fn.body=some c) (hn:fn.ntmps=n) (UK:fn.results=rs.toArray) (hl:args.length<=n) (Vt:n<=PIN) (h:wpA P c (zdt P rs r) (zbb n (args.map emb) noH)):Q9 P f args r:=by
 subst hn;have e:fn.results.toList=rs:=by rw[UK]
 subst e;exact zrV hm Xb hf hb hl Vt h
end
end Go.Abs
