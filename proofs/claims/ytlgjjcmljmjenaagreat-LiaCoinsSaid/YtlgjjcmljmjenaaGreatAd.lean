/- At every input the call answers true and leaves its arguments as they were; no conditions. -/
import Derived.Test.YtlgjjcmljmjenaaGreatAc
set_option linter.unusedSimpArgs false
set_option linter.unusedVariables false
set_option maxRecDepth 100000
namespace Go.Abs
variable {P:Program} {m:Nat} {σ:St} {K:AV->St->Prop}
theorem zyi{o:Oper}{d:Nat}{t:TypeId}(ho:o.op = .buildSlice t 0 #[])(h1:tok P t=true)(h2:isSliceD (tdesc P t)=true)(h3:tok P (telem P t)=true)(hd:σ.H d=none)(XE:d<PIN){sz:Nat} :
  zds P o σ (.one (.vec d sz 0 0)) (σ.withH (upd σ.H d (some []))):=by
 intro ρ ok a w h;obtain⟨s1,s2⟩:=h.push (d:=d) XE hd (cs:=[]) (arr:=#[]) (el:=telem P t) (Qk _) (fun j hj=>by simp at hj);refine⟨.slice (some ⟨w.heap.size,0,none⟩) 0 0,_,_,_,?_,.one (.vec (c:=w.heap.size) (n:=0) (by simp[ext]) (Qd _) ⟨telem P t,by simp[World.shape?]⟩ (by omega)),s1,s2⟩;simp only[execOp,ho];refine Yx ?_;unfold Instr.buildSlice;rw[Sem.run_bind,ZE h1,zaM h2];simp only[Result.andThen];rw[Sem.run_bind,zaB h3];simp only[Result.andThen,wdm];rw[Qb (by omega)];simp only[if_true,Sem.run_bind,Sem.run_pure,Result.andThen,wcR,waL,Instr.fill,newRow,newObj];have e:∀ g:Nat->Value,Array.map g (Array.range 0)=#[]:=fun g=>wdw (by simp)
 rw[e];rfl
theorem zko{o:Oper}{t:TypeId}(d sz:Nat)(ho:o.op = .buildSlice t 0 #[])(hm:2<=m)(Wx:tok P t=true/\isSliceD (tdesc P t)=true/\tok P (telem P t)=true)(hd:σ.H d=none)(XE:d<PIN)
  (hK:K (.one (.vec d sz 0 0)) (σ.withH (upd σ.H d (some [])))):OpA P m o σ K :=
 zhE hm (zyi ho Wx.1 Wx.2.1 Wx.2.2 hd XE) rfl hK
theorem RA.nilSplit{w:World}{ok:Nat->Prop}{ρ:Nat->Option Nat}{xs:List (List T)}{v:Value}(h:RA w ok ρ (.one (.t (.seq none xs))) v) :
  (xs=[]/\RA w ok ρ (.one (.t (.seq (some true) []))) v)\/RA w ok ρ (.one (.t (.seq (some false) xs))) v:=by
 cases h with
 |one h=>cases h with
  |t h=>cases h with
   |@seq _ _ A n c sz u blk off g1 g2 g0 g3 g4 g5 g6 g7 g8 =>
    cases A with
    |none =>
     have:c=0:=g0 rfl;have:xs=[]:=wbd.1 (by omega);subst this;exact .inl ⟨rfl,.one (.t (.seq g1 g2 g0 (fun _=>rfl) (fun e=>by cases e) g5 g6 g7 g8))⟩
    |some A=>exact .inr (.one (.t (.seq g1 g2 g0 (fun e=>by cases e) (fun _=>by simp) g5 g6 g7 g8)))
theorem Q7.nil1{f:FuncId}{xs:List (List T)}{r:TV}(h0:xs=[]->Q7 P f [.one (.seq (some true) [])] r)(h1:Q7 P f [.one (.seq (some false) xs)] r):Q7 P f [.one (.seq none xs)] r:=by
 refine⟨h1.1,fun ok w vs YB hv=>?_⟩;obtain⟨hs,hg⟩:=hv;have h:=hg 0 (by simp) (by rw[hs];simp);rcases RA.nilSplit h with⟨e,h⟩|h
 .exact(h0 e).2 ok w vs YB ⟨hs,fun i hi Y6=>by
   obtain rfl:i=0:=by simpa using hi
   exact h⟩
 .exact h1.2 ok w vs YB ⟨hs,fun i hi Y6=>by
   obtain rfl:i=0:=by simpa using hi
   exact h⟩
end Go.Abs
namespace Go.Abs
variable {P:Program}
def zmv(P:Program)(rr:ResultVar)(b sz n:Nat)(cs:List C)(e:Exit)(σ:St):Prop :=
 (e = .ret\/e = .normal)/\zak P σ rr/\zaV P σ rr = .one (.vec b sz 0 n)/\∃ l,σ.H b=some (cs++l)
@[go_sem] theorem fret1{σ:St}{rr:ResultVar}{b sz n:Nat}{cs:List C}:zmv P rr b sz n cs .ret σ=(zak P σ rr/\zaV P σ rr = .one (.vec b sz 0 n)/\∃ l,σ.H b=some (cs++l)):=by simp[zmv]
def zgK(P:Program)(f:FuncId)(args:List TV)(sz n:Nat)(cs:List C):Prop :=
 ∀ H d,H d=none->d<PIN->Ze P f (args.map emb) H (.one (.vec d sz 0 n)) (upd H d (some cs))
theorem zii(hm:P.follows .mixedOrders=true){f:FuncId}{fn:Func}{c:Code}{k:Nat}{rr:ResultVar}{args:List TV}{b sz n:Nat}{cs:List C}(Xd:∀ (as:Array Value) w,(callFunc f as).run P w = .ok (.enter f as) w)(hf:P.funcs[f]? = some fn)
  (hb:fn.body=some c) (hn:fn.ntmps=k) (Ug:fn.results=[rr].toArray) (hl:args.length<=k) (XO:k<=PIN) (YN:cs.all zd9=true) (h:wpA P c (zmv P rr b sz n cs) (zaZ k (args.map emb) noH)):zgK P f args sz n cs:=by
 subst hn;have e:fn.results.toList=[rr]:=by rw[Ug]
 intro H d hd XE;refine⟨Xd,fun ρ ok w vs hH hv=>?_⟩;have Vn:zaI w ok noρ (args.map emb) vs:=by
  refine⟨hv.1,fun i hi Y6=>?_⟩;have:=hv.2 i hi Y6;simp only[Qq]at this ⊢;exact zex this _ rfl
 refine calls_of_wp hf hb (Code.wp_mono ?_ (zcu hm c _ _ noρ ok _ w (zdl ⟨fun b cs hb=>(by cases hb),fun _ _=>rfl,fun _ _ _ h=>(by cases h),fun n hn=>⟨(hH.okR n hn).1,fun _ h=>(by cases h)⟩⟩ Vn (by rw[Vn.1];simpa using hl) XO) h));rintro e' a w' ⟨σ,ρ1,ok1,⟨he,YW,Vi,l,Y9⟩,s,g⟩;have KI:zak P σ rr:=YW;obtain⟨v,r1,r2⟩:=zc7 (P:=P) (fn:=fn) s (by rw[e];intro r hr;simp at hr;subst hr;exact KI);have r3:RA w' ok1 ρ1 (.one (.vec b sz 0 n)) v:=by
  rw[e]at r2;simp only[zb6]at r2;rw[Vi]at r2;exact r2
 obtain⟨c0,arr,el,k1,k2,k3,k4⟩:=s.heap b (cs++l) Y9;rw[Qj]at k3;have XN:w.heap.size<=c0:=by
  rcases g.img b c0 k1 with⟨b',h1⟩|h1
  .cases h1
  .exact h1
 have Vf:ρ d=none:=hH.dom d hd;have Y8:∀ n,n<w.heap.size->w'.heap[n]? = w.heap[n]?:=fun n hn=>g.same n hn (fun b e=>by cases e)
 have himgρ:∀ x n,ρ x=some n->n<w.heap.size:=fun x n hx=>by
  cases Eg:H x with
  |none=>rw[hH.dom x Eg]at hx;cases hx
  |some csx =>
   obtain⟨cx,ax,ex,q1,q2,_⟩:=hH.heap x csx Eg;rw[hx]at q1;cases q1
   rcases wau n w.heap.size with h3|h3
   .exact h3
   .simp[wcv h3]at q2
 have hk:zah ok w w':=fun n hn=>Y8 n (hH.okR n hn).1
 have hρ':∀ x y,ρ x=some y->ext ρ d (some c0) x=some y:=fun x y hx=>by
  unfold ext;rw[Qb (fun e=>by rw[e,Vf]at hx;cases hx)];exact hx
 have main:∃ v' ρ'' ok'',Ending.returned v = .returned v'/\RA w' ok'' ρ'' (.one (.vec d sz 0 n)) v'/\HR ρ'' ok'' (upd H d (some cs)) w'/\Goes ρ ok w ρ'' ok'' w'/\∀ b c,ρ b=some c->ρ'' b=some c:=by
  refine⟨v,ext ρ d (some c0),ok1,rfl,?_,⟨fun x cs2 hx=>?_,fun x hx=>?_,fun x y n hx hy=>?_,fun n hn=>⟨(s.okR n hn).1,fun x hx=>?_⟩⟩,⟨g.size,fun n hn _=>Y8 n hn,g.shape,fun x n hx=>?_,g.up,fun n hn=>?_,fun x hx=>.inl ?_,g.env⟩,hρ'⟩
  .cases r3 with
   |one r3=>cases r3 with
    |vec h1 h2 h3 h4 =>
     rw[k1]at h1;cases h1
     exact .one (.vec (by simp[ext]) h2 h3 h4)
  .simp only[upd]at hx
   split at hx
   .subst x;cases hx
    exact⟨c0,arr,el,by simp[ext],k2,by omega,fun j hj Y2=>by
     have:=k4 j (by rw[Qj];omega) Y2;rw[wby hj]at this;exact this.tree ((wac.1 YN) _ (Qf hj))⟩
   .obtain⟨cx,ax,ex,q1,q2,q3,q4⟩:=hH.heap x cs2 hx
    refine⟨cx,ax,ex,hρ' _ _ q1,by rw[Y8 cx (himgρ _ _ q1)];exact q2,q3,fun j hj Y2=>(q4 j hj Y2).mono hk g.up g.shape hρ'⟩
  .simp only[upd]at hx
   split at hx
   .cases hx
   .unfold ext;rw[Qb ‹_›];exact hH.dom x hx
  .unfold ext at hx hy
   split at hx<;>split at hy
   .subst_vars;rfl
   .cases hx;have:=himgρ _ _ hy;omega
   .cases hy;have:=himgρ _ _ hx;omega
   .exact hH.inj x y n hx hy
  .unfold ext at hx
   split at hx
   .cases hx;exact(s.okR _ hn).2 b k1
   .rcases g.down n hn with k|⟨b',k⟩|k
    .exact(hH.okR n k).2 x hx
    .cases k
    .have:=himgρ _ _ hx;omega
  .unfold ext at hx
   split at hx
   .cases hx;exact .inr XN
   .exact .inl ⟨x,hx⟩
  .rcases g.down n hn with k|⟨b',k⟩|k
   .exact .inl k
   .cases k
   .exact .inr (.inr k)
  .unfold ext;rw[Qb (by omega)]
 have XX:a.defers=[]/\∃ v,(results fn a.tmps).run P w' = .ok v w'/\∃ v' ρ'' ok'',Ending.returned v = .returned v'/\RA w' ok'' ρ'' (.one (.vec d sz 0 n)) v'/\HR ρ'' ok'' (upd H d (some cs)) w'/\Goes ρ ok w ρ'' ok'' w'/\∀ b c,ρ b=some c->ρ'' b=some c :=
  ⟨s.defers,v,r1,main⟩
 rcases he with rfl|rfl<;>exact XX
theorem ze7{m:Nat}{f:FuncId}{as:List AV}{tvs:List TV}{σ:St}{K:AV->St->Prop}(d:Nat){sz n:Nat}{cs:List C}(hm:m=1\/m=2)(h:zgK P f tvs sz n cs)(Xc:as=tvs.map emb)(hd:σ.H d=none)(XE:d<PIN)
  (hK:K (.one (.vec d sz 0 n)) (σ.withH (upd σ.H d (some cs)))):ZM P m f as σ K:=Xc▸.inr (.inl ⟨hm,_,_,h σ.H d hd XE,hK⟩)
end Go.Abs
namespace Go.Abs
section
variable {P:Program} {σ:St} {w w₀:World} {a:Act} {ρ:Nat->Option Nat} {ok:Nat->Prop}
theorem zq3{t:TypeId}{k:IntKind}(h:intD (tdesc P t)=some k):tdesc P t = .int k:=by
 unfold intD at h;split at h
 .cases h;assumption
 .cases h
theorem zrx{L:Nat}{t:TypeId}(V8:L*tbytes P (telem P t)<=2^47)(h0:0<tbytes P (telem P t)):IntKind.wrap .i64 (L:Int)=L:=by
 have:L*1<=L*tbytes P (telem P t):=waq _ h0;exact Q4 (by omega) (by omega)
theorem zkb{e:TypeId}{z:Value}{L:Nat}(hz:(P.info? e).bind (·.zero)=some z)(VJ:z.cells.size=tsize P e)(h3:tok P e=true) :
  (if L*tsize P e=0 then(pure #[]:Sem (Array Value))else do pure (Builtin.zeroCells (<-zeroValue e).cells L)).run P w = .ok (Builtin.zeroCells z.cells L) w:=by
 split
 .rename_i h
  have:Builtin.zeroCells z.cells L=#[]:=by
   apply wdw;simp only[Builtin.zeroCells,Array.size_map,Array.size_range];rw[VJ];exact h
  rw[this];rfl
 .rw[Sem.run_bind,zeg h3 hz];rfl
theorem zs1{t t' ty:TypeId}{c0 off n c L:Nat}(h1:tok P t=true)(h2:isSliceD (tdesc P t)=true)(h3:tok P (telem P t)=true)(h4:tok P t'=true)(h5:intD (tdesc P t')=some .i64)(hL:L*tbytes P (telem P t)<=2^47)(V8:0<tbytes P (telem P t))
  (hc:n+L<=c) {z:Value} (hz:(P.info? (telem P t)).bind (·.zero)=some z) (VJ:z.cells.size=tsize P (telem P t)) {w':World} (YM:(storeCells ⟨c0,off+n*tsize P (telem P t),none⟩ (Builtin.zeroCells z.cells L).toList 0).run P w = .ok () w') :
  (Builtin.append_ #[t,t'] ty #[.slice (some ⟨c0,off,none⟩) n c,.int .i64 (L:Int)]).run P w = .ok (.slice (some ⟨c0,off,none⟩) (n+L) c) w':=by
 obtain⟨i,hi,JF⟩:=zei (w:=w) h3;have NQ:tbytes P (telem P t)=i.bytes:=by simp[tbytes,hi]
 unfold Builtin.append_;simp only[waZ,wa0,wa6];rw[Sem.run_bind,ZE h1,zaM h2];simp only[Result.andThen];rw[Sem.run_bind,zaB h3];simp only[Result.andThen];rw[Sem.run_bind,ZE h4,zq3 h5];simp only[Result.andThen];rw[Sem.run_bind];simp only[Result.andThen,Sem.run_pure,if_true];have Gy:(asInt (.int .i64 (L:Int))).run P w = .ok (L:Int) w:=rfl;rw[Sem.run_bind,Gy];simp only[Result.andThen,zrx hL V8,wc0,wa3,if_false];rw[Qb (by omega),Sem.run_bind,JF];simp only[Result.andThen];rw[Qb (by rw[<-NQ];intro h;omega)];simp only[wbB];rw[Sem.run_bind];simp only[Sem.run_pure,Result.andThen];rw[Qc hc,Sem.run_bind,zkb hz VJ h3];simp only[Result.andThen];rw[Sem.run_bind,zcK,YM];rfl
theorem zss{t t' ty:TypeId}{A:Option Addr}{n c L:Nat}(h1:tok P t=true)(h2:isSliceD (tdesc P t)=true)(h3:tok P (telem P t)=true)(h4:tok P t'=true)(h5:intD (tdesc P t')=some .i64)(hL:L*tbytes P (telem P t)<=2^47)
  (hc:c<n+L) (hb:(n+L)*tbytes P (telem P t)<=2^47) (V8:0<tbytes P (telem P t)) {z:Value} (hz:(P.info? (telem P t)).bind (·.zero)=some z) (VJ:z.cells.size=tsize P (telem P t)) {old:Array Value} (Uu:∀ w,w.heap=w₀.heap->(Builtin.firstCells (tsize P (telem P t)) n (.slice A n c)).run P w = .ok old w)
  (hw:w.heap=w₀.heap) :
  ∃ (k:Nat) (rest:Array Value),n+L<=k/\rest.size=(k-(n+L))*z.cells.size/\(Builtin.append_ #[t,t'] ty #[.slice A n c,.int .i64 (L:Int)]).run P w =
   .ok (.slice (some ⟨w.heap.size,0,none⟩) (n+L) k) { w with heap:=w.heap.push (.cells (old++Builtin.zeroCells z.cells L++rest) (telem P t)),drawn:=w.drawn+1 }:=by
 refine⟨(Question.appendCap (n+L) c (telem P t)).cut (w.tape w.drawn (Question.appendCap (n+L) c (telem P t))),Builtin.zeroCells z.cells ((Question.appendCap (n+L) c (telem P t)).cut (w.tape w.drawn (Question.appendCap (n+L) c (telem P t)))-(n+L)),?_,by simp[Builtin.zeroCells],?_⟩
 .simp only[Question.cut];omega
 generalize hk:(Question.appendCap (n+L) c (telem P t)).cut (w.tape w.drawn (Question.appendCap (n+L) c (telem P t)))=k;obtain⟨i,hi,JF⟩:=zei (w:=w) h3;have NQ:tbytes P (telem P t)=i.bytes:=by simp[tbytes,hi]
 unfold Builtin.append_;simp only[waZ,wa0,wa6];rw[Sem.run_bind,ZE h1,zaM h2];simp only[Result.andThen];rw[Sem.run_bind,zaB h3];simp only[Result.andThen];rw[Sem.run_bind,ZE h4,zq3 h5];simp only[Result.andThen];rw[Sem.run_bind];simp only[Result.andThen,Sem.run_pure,if_true];have Gy:(asInt (.int .i64 (L:Int))).run P w = .ok (L:Int) w:=rfl;rw[Sem.run_bind,Gy];simp only[Result.andThen,zrx hL V8,wc0,wa3,if_false];rw[Qb (by omega),Sem.run_bind,JF];simp only[Result.andThen];rw[Qb (by rw[<-NQ];intro h;omega)];simp only[wbB];rw[Sem.run_bind];simp only[Sem.run_pure,Result.andThen];rw[Qb (by omega),Sem.run_bind,JF];simp only[Result.andThen];have LN:(n+L)*1<=(n+L)*tbytes P (telem P t):=waq _ V8;rw[Qb (by simp only[IntKind.max];rintro⟨h,_⟩;simp[IntKind.signed,IntKind.bits]at h;omega),Sem.run_bind,JF];simp only[Result.andThen];rw[Qb (by rw[<-NQ];have:=growslice_fits hc (by simpa using hb);simp at this ⊢;omega),Sem.run_bind,zni rfl,hk];simp only[Result.andThen];obtain⟨i',Y6,NR⟩:=zei (P:=P) (w:={ w with drawn:=w.drawn+1 }) h3;rw[Sem.run_bind,NR];simp only[Result.andThen];have Vp:∀ b:Nat,(askRoom b).run P { w with drawn:=w.drawn+1 } = .ok () { w with drawn:=w.drawn+1 }:=fun b=>by unfold askRoom;split<;>rfl
 rw[Sem.run_bind,Vp];simp only[Result.andThen];rw[Sem.run_bind,Uu { w with drawn:=w.drawn+1 } hw];simp only[Result.andThen];rw[Sem.run_bind,zkb hz VJ h3];simp only[Result.andThen];rw[Sem.run_bind,zeg h3 hz];simp only[Result.andThen,newRow,newObj];rfl
theorem zvK{o:Oper}{b n L:Nat}{x y:Operand}{t t':TypeId}(ho:o.op = .call { callee:=.builtin .append,args:=#[x,y],argTypes:=#[t,t'] })(h1:tok P t=true)(h2:isSliceD (tdesc P t)=true)(h3:tok P (telem P t)=true)(h4:tok P t'=true)
  (h5:intD (tdesc P t')=some .i64) {z:List C} (hz:tzero P (telem P t)=some z) (Vo:z.length=tsize P (telem P t)) (V8:0<tbytes P (telem P t)) {cs:List C} (hx:ev σ.s x = .one (.vec b (tsize P (telem P t)) 0 n)) (YN:σ.H b=some cs)
  (hn:cs.length=n*tsize P (telem P t)) (hy:ev σ.s y=litI .i64 (L:Int))
  (hb:(n+L)*tbytes P (telem P t)<=2^47) (Wr:b<PIN):zds P o σ (.one (.vec b (tsize P (telem P t)) 0 (n+L))) (σ.renew b (cs.map (jC b)++Zh L z)):=by
 intro ρ ok a w h;obtain⟨zv,UF,Wy⟩:=zc8 hz;have VJ:zv.cells.size=tsize P (telem P t):=by
  have:=(zca (w:=w) (ok:=ok) (ρ:=ρ) Wy).1;rw[<-Vo,this];simp
 have Y7:=Zm h x;have Xx:=Zm h y;rw[hx]at Y7;rw[hy]at Xx;have Uv:=Xx.int_inv;obtain⟨c,cap,n0,hρb,KH,k2,k3,k4⟩:=Y7.vec_inv;have Ol:L*tbytes P (telem P t)<=2^47:=Qo (wag _ (by omega)) hb;have zr:=fun(w:World) (ok:Nat->Prop) (ρ:Nat->Option Nat)=>ziN (zca (w:=w) (ok:=ok) (ρ:=ρ) Wy).1 (zca (w:=w) (ok:=ok) (ρ:=ρ) Wy).2 L
 have Kt:(Array.range (L*z.length)).map (zv.cells[· % zv.cells.size]!)=Builtin.zeroCells zv.cells L:=by unfold Builtin.zeroCells;rw[VJ,Vo]
 rw[Kt]at zr;have Xz:(Zh L z).length=L*tsize P (telem P t):=by rw[zdE,Vo]
 generalize Eo:Builtin.zeroCells zv.cells L=vs at zr;have Uw:vs.size=(Zh L z).length:=(zr w ok ρ).1;obtain⟨cb,arr,el,e1,e2,e3,e4⟩:=h.heap b cs YN;rw[hρb]at e1;cases e1
 have Xu:n0=arr.size:=by
  obtain⟨el',hs⟩:=k3;simp[World.shape?,e2]at hs;exact hs.2.symm
 subst Xu;by_cases XZ:n+L<=cap
 ·
  have Vp:n*tsize P (telem P t)+L*tsize P (telem P t)<=arr.size:=by
   have:(n+L)*tsize P (telem P t)<=cap*tsize P (telem P t):=wag _ XZ;rw[war]at this;omega
  have YT:∀ v∈vs.toList,zcF v=true:=fun v hv=>by
   obtain⟨j,hj,rfl⟩:=waQ.1 hv;have X7:j<vs.size:=by simpa using hj
   have:=((zr w ok ρ).2 j (by omega) X7).oneCell;simpa using this
  obtain⟨w',arr',r1,r2,r3,r4,r5,r6,r7⟩:=zig (P:=P) (c:=c) (off:=n*tsize P (telem P t)) vs.toList 0 w arr e2 YT (by simp;omega);have hk:zah ok w w':=fun m hm=>r3 m (fun e=>(h.okR m hm).2 b (e▸hρb))
  have hs:∀ m el k,w.shape? m=some (el,k)->w'.shape? m=some (el,k):=fun m el' k V3=>by
   by_cases hm:m=c
   .subst hm;simp[World.shape?,e2]at V3;simp[World.shape?,r4,r5,V3]
   .simpa[World.shape?,r3 m hm]using V3
  have Xw:=zs1 (P:=P) (w:=w) (w':=w') (t:=t) (t':=t') (ty:=o.type) (c0:=c) (off:=0) (n:=n) (c:=cap) (L:=L) h1 h2 h3 h4 h5 Ol V8 XZ UF VJ (by rw[waT,Eo];exact r1);refine⟨.slice (some ⟨c,0,none⟩) (n+L) cap,w',ρ,ok,zeh ho (by rw[KH,Uv];exact Xw),.one (.vec hρb XZ (hs _ _ _ (by simp[World.shape?,e2];rfl) |> fun h=>⟨_,h⟩) k4),⟨⟨fun b' cs' hb'=>?_,fun b' hb'=>?_,h.inj,fun m hm=>⟨by rw[r2];exact(h.okR m hm).1,(h.okR m hm).2⟩⟩,h.size,fun t'=>?_,h.defers,h.small⟩,⟨by omega,fun m hm hb'=>r3 m (fun e=>hb' b (e▸hρb)),hs,fun b' m hb'=>.inl ⟨b',hb'⟩,fun _ h=>h,fun _ h=>.inl h,fun _ _=>.inl rfl,r7⟩⟩
  .simp only[zbl]at hb'
   split at hb'
   .subst b';cases hb'
    refine⟨c,arr',el,hρb,r4,by simp only[Qj,Qm];omega,fun j hj Y2=>?_⟩;have e6:=r6 j;simp only[wap]at e6;by_cases hjn:j<cs.length
    .rw[wby (by simpa using hjn)]
     rw[Qb (by omega),waY Y2,waY (by omega)]at e6;rw[wa2 e6];simp only[Qq];exact((e4 j hjn (by omega)).mono hk (fun _ h=>h) hs (fun _ _ h=>h)).junked (fun _ _ _ h=>h)
    .have Eb:j<cs.length+(Zh L z).length:=by have:=hj;simp only[Qj,Qm]at this;exact this
     have VC:n*tsize P (telem P t)<=j/\j<n*tsize P (telem P t)+vs.toList.length:=⟨by omega,by rw[wcM];omega⟩
     rw[wbH (by simpa using hjn)];rw[Qc VC,waY Y2,wab (by rw[wcM];omega)]at e6;rw[wa2 e6];have hr:=(zr w' ok ρ).2 (j-n*tsize P (telem P t)) (by omega) (by omega);simp only[Qm,wbW,hn];simp only[waT,wap]at *
     exact hr
   .rename_i hne
    simp only[wbt]at hb';obtain⟨cs0,VE,rfl⟩:=hb';obtain⟨c2,arr2,el2,f1,f2,f3,f4⟩:=h.heap b' cs0 VE;have WK:c2≠c:=fun e=>hne (h.inj b' b c2 f1 (e▸hρb))
    exact⟨c2,arr2,el2,f1,by rw[r3 c2 WK];exact f2,by simpa using f3,fun j hj Y2=>by
     simp only[Qq];exact((f4 j (by simpa using hj) Y2).mono hk (fun _ h=>h) hs (fun _ _ h=>h)).junked (fun _ _ _ h=>h)⟩
  .simp only[zbl]at hb'
   split at hb'
   .cases hb'
   .simp only[wcx]at hb';exact h.dom b' hb'
  .simp only[zgp]
   exact(h.lift hk (fun _ h=>h) hs (fun _ _ h=>h) t').junked (fun _ _ _ h=>h)
 ·
  have Uu:∀ w',w'.heap=w.heap->(Builtin.firstCells (tsize P (telem P t)) n (.slice (some ⟨c,0,none⟩) n cap)).run P w' = .ok ((List.range (n*tsize P (telem P t))).map fun j=>(arr[j]?).getD undef).toArray w':=by
   intro w' UQ;unfold Builtin.firstCells;simp only[];refine zeU _ fun j hj=>?_
   have:j<arr.size:=by omega
   rw[zg6 UQ];simp[World.cell?,e2,this]
  obtain⟨k,rest,hk,Xt,Xe⟩:=zss (P:=P) (w:=w) (w₀:=w) (ty:=o.type) (A:=some ⟨c,0,none⟩) (n:=n) (c:=cap) (L:=L) h1 h2 h3 h4 h5 Ol (by omega) hb V8 UF VJ Uu rfl;rw[Eo]at Xe;generalize UZ:((List.range (n*tsize P (telem P t))).map fun j=>(arr[j]?).getD undef).toArray++vs++rest=ARR at Xe;have Vc:((List.range (n*tsize P (telem P t))).map fun j=>(arr[j]?).getD undef).toArray.size=n*tsize P (telem P t):=by simp
  have Vq:ARR.size=k*tsize P (telem P t):=by
   rw[<-UZ];simp only[wb2,Vc];rw[Xt,Uw,Xz,VJ,<-war,<-war];congr 1;omega
  have YB:∀ m,ok m->m<w.heap.size:=fun m hm=>(h.okR m hm).1
  have hρ:∀ b' m,b'≠b->ρ b'=some m->ext ρ b (some w.heap.size) b'=some m:=fun b' m hne hm=>by simp[ext,hne,hm]
  have VU:=zdH (w:=w) (o:=.cells ARR (telem P t)) YB;have Xa:∀ m,m<w.heap.size->(w.heap.push (.cells ARR (telem P t)))[m]? = w.heap[m]?:=fun m hm=>by simp[wcc,wcd hm]
  have WL:∀ m el k,w.shape? m=some (el,k)->({ w with heap:=w.heap.push (.cells ARR (telem P t)) }:World).shape? m=some (el,k):=zda;refine⟨.slice (some ⟨w.heap.size,0,none⟩) (n+L) k,_,ext ρ b (some w.heap.size),ok,zeh ho (by rw[KH,Uv];exact Xe),.one (.vec (c:=w.heap.size) (n:=ARR.size) (by simp[ext]) hk ⟨telem P t,by simp[World.shape?]⟩ (by rw[Vq];omega)),?_,?_⟩
  .have main:SR (ext ρ b (some w.heap.size)) ok (σ.renew b (cs.map (jC b)++Zh L z)) a { w with heap:=w.heap.push (.cells ARR (telem P t)) }:=by
    refine⟨⟨fun b' cs' hb'=>?_,fun b' hb'=>?_,fun b1 b2 m h1 h2=>?_,fun m hm=>⟨by have:=YB m hm;simp;omega,fun b' hb'=>?_⟩⟩,h.size,fun t'=>?_,h.defers,h.small⟩
    .simp only[zbl]at hb'
     split at hb'
     .subst b';cases hb'
      refine⟨w.heap.size,ARR,telem P t,by simp[ext],by simp,by rw[Vq];simp only[Qj,Qm,hn,Xz,<-war];exact wag _ hk,fun j hj Y2=>?_⟩;subst UZ;by_cases hjn:j<cs.length
      .rw[wby (by simpa using hjn)]
       rw[wbN (by simp;omega),wbN (by simp;omega)];simp only[Qq,wcj,wc7];have Y1:j<arr.size:=by omega
       have:=e4 j hjn Y1;rw[show(arr[j]?).getD undef=arr[j] by simp[Y1]];exact(this.mono (ρ':=ρ) VU (fun _ h=>h) WL (fun _ _ h=>h)).junked hρ
      .have Eb:j<cs.length+(Zh L z).length:=by have:=hj;simp only[Qj,Qm]at this;exact this
       rw[wbH (by simpa using hjn)];rw[wbN (by rw[wb2,Vc];omega),wdI (by rw[Vc];omega)];have hr:=fun w'=>(zr w' ok (ext ρ b (some w.heap.size))).2 (j-n*tsize P (telem P t)) (by omega) (by omega)
       simp only[Qm,Vc,hn];exact hr _
     .rename_i hne
      simp only[wbt]at hb';obtain⟨cs0,VE,rfl⟩:=hb';obtain⟨c2,arr2,el2,f1,f2,f3,f4⟩:=h.heap b' cs0 VE;refine⟨c2,arr2,el2,hρ _ _ hne f1,by rw[Xa c2 (Yb h.toHR f1)];exact f2,by simpa using f3,fun j hj Y2=>?_⟩;simp only[Qq];exact((f4 j (by simpa using hj) Y2).mono (ρ':=ρ) VU (fun _ h=>h) WL (fun _ _ h=>h)).junked hρ
    .simp only[zbl]at hb'
     split at hb'
     .cases hb'
     .rename_i hne;simp only[wcx]at hb';simp[ext,hne,h.dom b' hb']
    .simp only[ext]at h1 h2
     split at h1<;>split at h2
     .subst b1;subst b2;rfl
     .cases h1;have:=Yb h.toHR h2;omega
     .cases h2;have:=Yb h.toHR h1;omega
     .exact h.inj b1 b2 m h1 h2
    .simp only[ext]at hb'
     split at hb'
     .cases hb';have:=YB _ hm;omega
     .exact(h.okR m hm).2 b' hb'
    .simp only[zgp]
     exact(h.lift (ρ':=ρ) VU (fun _ h=>h) WL (fun _ _ h=>h) t').junked hρ
   exact main.drawn.1
  .refine⟨by simp,fun m hm _=>Xa m hm,WL,fun b' m hb'=>?_,fun _ h=>h,fun _ h=>.inl h,fun b' hb'=>.inl (by unfold ext;rw[Qb (by omega)]),⟨rfl,rfl⟩⟩
   simp only[ext]at hb';split at hb'
   .cases hb';exact .inr (Qd _)
   .exact .inl ⟨b',hb'⟩
end
def zq4(P:Program)(t t':TypeId)(sz bytes:Nat)(z:List C):Prop:=tok P t=true/\isSliceD (tdesc P t)=true/\tok P (telem P t)=true/\tok P t'=true/\intD (tdesc P t')=some .i64/\tzero P (telem P t)=some z/\z.length=sz/\tsize P (telem P t)=sz/\tbytes P (telem P t)=bytes/\0<bytes
theorem zvL{P:Program}{m:Nat}{σ:St}{K:AV->St->Prop}{d:Nat}{ty:TypeId}{pos:String}{af:Array Edge}{g:Option (Nat×Bool)}{x y:Operand}{t t':TypeId}{α:Type}{f:α->List T}{sz bytes:Nat}(hm:2<=m)(z0:α)(Wx:zq4 P t t' sz bytes ((f z0).map .t))(hf:∀ x,(f x).length=sz)(xs:List α){b n L:Nat}(hx:ev σ.s x = .one (.vec b sz 0 n))(hn:n=xs.length)(YN:σ.H b=some (Q5 f xs))
  (hy:ev σ.s y=litI .i64 (L:Int)) (hb:(xs.length+L)*bytes<=2^47) (Wr:b<PIN) (hK:K (.one (.vec b sz 0 (xs.length+L))) (σ.renew b (Q5 f (xs++List.replicate L z0)))) :
  OpA P m ⟨some d,.call { callee:=.builtin .append,args:=#[x,y],argTypes:=#[t,t'] },ty,pos,af,g⟩ σ K:=by
 obtain⟨h1,h2,h3,h4,h5,h6,h7,h8,rfl,Wh⟩:=Wx;subst hn;subst h8;have:=zvK (P:=P) (σ:=σ) (o:=⟨some d,.call { callee:=.builtin .append,args:=#[x,y],argTypes:=#[t,t'] },ty,pos,af,g⟩) rfl h1 h2 h3 h4 h5 h6 h7 Wh hx YN (zcG hf) hy hb Wr;rw[zkz,zmW,<-zgQ]at this;exact zhE hm this rfl hK
theorem zt0{P:Program}{σ:St}{o:Oper}{d n:Nat}{t:TypeId}{parts:Array (Nat×Operand)}(ho:o.op = .buildSlice t n parts)(h1:tok P t=true)(h2:isSliceD (tdesc P t)=true)(h3:tok P (telem P t)=true)
  (h4:n*tsize P (telem P t)<=2^24) (h5:0<n*tsize P (telem P t)) {z cs:List C} (hz:tzero P (telem P t)=some z) (h6:z.length=tsize P (telem P t))
  (YN:za1 (fun i=>some (i*tsize P (telem P t),tsize P (telem P t))) (Zh n z) (parts.toList.map fun p=>(p.1,ev σ.s p.2))=some cs) (hd:σ.H d=none) (XE:d<PIN) :
  zds P o σ (.one (.vec d (tsize P (telem P t)) 0 n)) (σ.withH (upd σ.H d (some cs))):=by
 intro ρ ok a w h;obtain⟨v,Vt,V4⟩:=zc8 hz;obtain⟨l1,l2⟩:=zca (w:=w) (ok:=ok) (ρ:=ρ) V4;obtain⟨z1,z2⟩:=ziN l1 l2 n;obtain⟨arr',g1,g2,g3⟩:=zk7 (w:=w) (ok:=ok) (ρ:=ρ) _ _ (parts.toList.map fun p=>(p.1,a.eval p.2)) _ cs _ (by simp) (zkJ h parts.toList) z1 z2 YN;have Xo:cs.length=n*tsize P (telem P t):=by rw[zkf YN,zdE,h6]
 obtain⟨s1,s2⟩:=h.push (d:=d) XE hd (cs:=cs) (arr:=arr') (el:=telem P t) (by omega) g3;refine⟨.slice (some ⟨w.heap.size,0,none⟩) n n,_,_,_,?_,.one (.vec (c:=w.heap.size) (n:=arr'.size) (by simp[ext]) (Qd _) ⟨telem P t,by simp[World.shape?]⟩ (by omega)),s1,s2⟩;simp only[execOp,ho];refine Yx ?_;unfold Instr.buildSlice;rw[Sem.run_bind,ZE h1,zaM h2];simp only[Result.andThen];rw[Sem.run_bind,zaB h3];simp only[Result.andThen];rw[Qb (by omega),Qb (by omega),Sem.run_bind,zeg h3 Vt];simp only[Result.andThen,Sem.run_bind,Sem.run_pure];have e2:(parts.map fun p=>(p.1,a.eval p.2)).toList=parts.toList.map fun p=>(p.1,a.eval p.2):=by simp
 rw[e2,<-h6];rw[<-h6]at g1;rw[g1];simp only[newRow,newObj];rfl
theorem ziM{P:Program}{m:Nat}{σ:St}{K:AV->St->Prop}{o:Oper}{t:TypeId}{n:Nat}{parts:Array (Nat×Operand)}(d sz:Nat)(z:List C){cs:List C}(ho:o.op = .buildSlice t n parts)(hm:2<=m)
  (Wx:tok P t=true/\isSliceD (tdesc P t)=true/\tok P (telem P t)=true/\tzero P (telem P t)=some z/\z.length=sz/\tsize P (telem P t)=sz/\n*sz<=2^24/\0<n*sz)
  (YN:za1 (fun i=>some (i*sz,sz)) (Zh n z) (parts.toList.map fun p=>(p.1,ev σ.s p.2))=some cs) (hd:σ.H d=none) (XE:d<PIN)
  (hK:K (.one (.vec d sz 0 n)) (σ.withH (upd σ.H d (some cs)))):OpA P m o σ K:=by
 obtain⟨h1,h2,h3,h4,h5,h6,h7,h8⟩:=Wx;subst h6;exact zhE hm (zt0 ho h1 h2 h3 h7 h8 h4 h5 YN hd XE) rfl hK
theorem RA.weakS{w:World}{ok:Nat->Prop}{ρ:Nat->Option Nat}{nl:Option Bool}{xs:List (List T)}{v:Value}(h:RA w ok ρ (.one (.t (.seq nl xs))) v):RA w ok ρ (.one (.t (.seq none xs))) v:=by
 cases h with
 |one h=>cases h with
  |t h=>cases h with
   |seq g1 g2 g0 g3 g4 g5 g6 g7 g8=>exact .one (.t (.seq g1 g2 g0 (fun e=>by cases e) (fun e=>by cases e) g5 g6 g7 g8))
theorem zik{σ:St}(t:Nat){nl:Option Bool}{xs:List (List T)}(hs:σ.s t = .one (.t (.seq nl xs))):GStep σ (σ.put t (.one (.t (.seq none xs)))):=by
 intro ρ ok a w h;refine⟨ρ,ok,⟨h.toHR,h.size,fun t'=>?_,h.defers,h.small⟩,Goes.refl ρ ok w⟩;have:=h.slots t';simp only[St.put];split
 .subst_vars;rw[hs]at this;exact this.weakS
 .exact this
theorem zao{H:QE}{a b:AV}{x y:TV}(h1:FzA H a x)(h2:FzA H b y):FzA H (.tup [a,b]) (.tup [x,y]):=.tup rfl fun j h h'=>by
 match j,h,h' with
 |0,_,_=>exact h1
 |1,_,_=>exact h2
 |j+2,h,_=>simp at h;omega
section
variable {P:Program}
theorem QK.done{ops:Array Oper}{q:St->Prop}{fuel:Nat}{listed:Array Bool}{σ:St}(hr:Region.ready .any ops listed=[])(hq:q σ):QK P ops q fuel listed σ :=
 fun ρ ok a w h _ _ hn=>wpAny_done hr (hn σ ρ ok a w hq h (Goes.refl _ _ _)) fuel
def zjW(P:Program)(ops:Array Oper)(q:St->Prop)(fuel:Nat)(listed:Array Bool)(σ:St)(i:Nat)(o:Oper):Prop :=
 zaP σ.n o.dst=true/\BR (zbz ops.toList σ o.guard) (QV P 2 o σ fun v σ'=>QK P ops q fuel (listed.setIfInBounds i true) (σ'.putO o.dst v)) (QK P ops q fuel (listed.setIfInBounds i true) (σ.putO o.dst undefA))
theorem QK.all{ops:Array Oper}{q:St->Prop}{fuel:Nat}{listed:Array Bool}{σ:St}(rs:List Nat)(hr:Region.ready .any ops listed=rs)(hne:rs≠[])
  (h:∀ i∈rs,∃ o,ops[i]? = some o/\zjW P ops q fuel listed σ i o):QK P ops q (fuel+1) listed σ:=by
 intro ρ ok a w hs Q' hp hn;refine wpAny_all hr hne fun i hi=>?_
 obtain⟨o,ho,hd,hb⟩:=h i hi;unfold wpOp;simp only[ho];unfold BR at hb;split at hb
 .rename_i hw
  rw[Qc (zfX hs hw)];refine .inl (Oper.wp_mono ?_ (zip hs hd hb));rintro a' w' ⟨x,v,τ,ρ',ok',hk,rfl,hx,Wi,hg,FU⟩;exact hk ρ' ok' _ w' (Wi.putA (by rw[FU];exact hd) hx) Q' hp (fun σ'' ρ'' ok'' a'' w'' q1 s1 g1=>hn σ'' ρ'' ok'' a'' w'' q1 s1 (hg.trans g1))
 .rename_i hw
  rw[Qb (by rw[zfX hs hw];simp)];exact hb ρ ok _ w (hs.undefA hd) Q' hp hn
 .exact hb.elim
theorem QK.one{ops:Array Oper}{q:St->Prop}{fuel:Nat}{listed:Array Bool}{σ:St}(i:Nat)(o:Oper)(hr:Region.ready .any ops listed=[i])(ho:ops[i]? = some o)(h:zjW P ops q fuel listed σ i o):QK P ops q (fuel+1) listed σ :=
 .all [i] hr (by simp) fun j hj=>by rw[Qr.1 hj];exact⟨o,ho,h⟩
theorem QK.two{ops:Array Oper}{q:St->Prop}{fuel:Nat}{listed:Array Bool}{σ:St}(i j:Nat)(o o':Oper)(hr:Region.ready .any ops listed=[i,j])(ho:ops[i]? = some o)(Hj:ops[j]? = some o')(h:zjW P ops q fuel listed σ i o)(h':zjW P ops q fuel listed σ j o'):QK P ops q (fuel+1) listed σ :=
 .all [i,j] hr (by simp) fun k hk=>by
  rcases wad.1 hk with rfl|hk
  .exact⟨o,ho,h⟩
  .rw[Qr.1 hk];exact⟨o',Hj,h'⟩
def zhD(P:Program)(o:Oper)(σ:St)(v:AV):Prop:=∀ ρ ok a w,SR ρ ok σ a w->∃ u,(∀ w',(execOp a.eval o).run P w' = .ok (.value u) w')/\RA w ok ρ v u
theorem QK.take{ops:Array Oper}{q:St->Prop}{fuel:Nat}{listed:Array Bool}{σ:St}(i:Nat){o:Oper}{v:AV}(hi:ops[i]? = some o)(hs:Region.noSelect ops=true)(hf:Region.free .any ops listed i=true)(hr:(Region.ready .any ops listed).contains i=true)
  (hg:o.guard=none) (hd:zaP σ.n o.dst=true) (hy:zhD P o σ v) (h:QK P ops q fuel (listed.setIfInBounds i true) (σ.putO o.dst v)):QK P ops q (fuel+1) listed σ:=by
 intro ρ ok a w JA Q' hp hn;obtain⟨u,hu,Fp⟩:=hy ρ ok a w JA;exact wpAny_take hi hs hf hr (fun c a w h=>Qn h (hp c _ w)) (.inl ⟨by unfold Region.wanted;rw[hg],hu⟩) (h ρ ok _ w (JA.putA hd Fp) Q' hp hn)
theorem QK.take'{ops:Array Oper}{q:St->Prop}{fuel:Nat}{listed:Array Bool}{σ:St}(i:Nat){d:Nat}{op:Op}{ty:TypeId}{pos:String}{af:Array Edge}{v:AV}(hi:ops[i]? = some ⟨some d,op,ty,pos,af,none⟩)(hs:Region.noSelect ops=true)(hf:Region.free .any ops listed i=true)(hr:(Region.ready .any ops listed).contains i=true)
  (hd:d<σ.n) (hy:zhD P ⟨some d,op,ty,pos,af,none⟩ σ v) (h:QK P ops q fuel (listed.setIfInBounds i true) (σ.put d v)):QK P ops q (fuel+1) listed σ :=
 QK.take i hi hs hf hr rfl (by simpa[zaP]using hd) hy h
theorem QK.one'{ops:Array Oper}{q:St->Prop}{fuel:Nat}{listed:Array Bool}{σ:St}(i:Nat){d:Option Nat}{op:Op}{ty:TypeId}{pos:String}{af:Array Edge}(hr:Region.ready .any ops listed=[i])(ho:ops[i]? = some ⟨d,op,ty,pos,af,none⟩)
  (hd:zaP σ.n d=true) (h:QV P 2 ⟨d,op,ty,pos,af,none⟩ σ fun v σ'=>QK P ops q fuel (listed.setIfInBounds i true) (σ'.putO d v)):QK P ops q (fuel+1) listed σ :=
 QK.one i _ hr ho ⟨hd,h⟩
theorem QK.two'{ops:Array Oper}{q:St->Prop}{fuel:Nat}{listed:Array Bool}{σ:St}(i j:Nat){d d':Option Nat}{op op':Op}{ty ty':TypeId}{pos pos':String}{af af':Array Edge}(hr:Region.ready .any ops listed=[i,j])(ho:ops[i]? = some ⟨d,op,ty,pos,af,none⟩)(Hj:ops[j]? = some ⟨d',op',ty',pos',af',none⟩)
  (hd:zaP σ.n d=true) (Nh:zaP σ.n d'=true) (h:QV P 2 ⟨d,op,ty,pos,af,none⟩ σ fun v σ'=>QK P ops q fuel (listed.setIfInBounds i true) (σ'.putO d v))
  (h':QV P 2 ⟨d',op',ty',pos',af',none⟩ σ fun v σ'=>QK P ops q fuel (listed.setIfInBounds j true) (σ'.putO d' v)):QK P ops q (fuel+1) listed σ :=
 QK.two i j _ _ hr ho Hj ⟨hd,h⟩ ⟨Nh,h'⟩
theorem zdD{o:Oper}{σ:St}{x:Operand}(ho:o.op = .move x):zhD P o σ (ev σ.s x):=fun ρ ok a w h =>
 ⟨a.eval x,fun w'=>(by simp only[execOp,ho];rfl),Zm h x⟩
end
end Go.Abs
