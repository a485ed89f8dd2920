/- At every input the call answers true and leaves its arguments as they were; no conditions. -/
import Derived.Test.YtlgjjcmljmjenaaGreatAc
set_option linter.unusedSimpArgs false
set_option linter.unusedVariables false
set_option maxRecDepth 100000
namespace Go.Abs
variable {P:Program} {m:Nat} {σ:St} {K:AV->St->Prop}
theorem zyp{o:Oper}{d:Nat}{t:TypeId}(ho:o.op = .buildSlice t 0 #[])(h1:tok P t=true)(h2:isSliceD (tdesc P t)=true)(h3:tok P (telem P t)=true)(hd:σ.H d=none)(XD:d<PIN){sz:Nat} :
  zdj P o σ (.one (.vec d sz 0 0)) (σ.withH (upd σ.H d (some []))):=by
 intro ρ ok a w h;obtain⟨s1,s2⟩:=h.push (d:=d) XD hd (cs:=[]) (arr:=#[]) (el:=telem P t) (Qk _) (fun j hj=>by simp at hj);refine⟨.slice (some ⟨w.heap.size,0,none⟩) 0 0,_,_,_,?_,.one (.vec (c:=w.heap.size) (n:=0) (by simp[ext]) (Qd _) ⟨telem P t,by simp[World.shape?]⟩ (by omega)),s1,s2⟩;simp only[execOp,ho];refine Yu ?_;unfold Instr.buildSlice;rw[Sem.run_bind,ZE h1,zaK h2];simp only[Result.andThen];rw[Sem.run_bind,zaz h3];simp only[Result.andThen,wdh];rw[Qb (by omega)];simp only[if_true,Sem.run_bind,Sem.run_pure,Result.andThen,wcO,waH,Instr.fill,newRow,newObj];have e:∀ g:Nat->Value,Array.map g (Array.range 0)=#[]:=fun g=>wdq (by simp)
 rw[e];rfl
theorem zkc{o:Oper}{t:TypeId}(d sz:Nat)(ho:o.op = .buildSlice t 0 #[])(hm:2<=m)(Wr:tok P t=true/\isSliceD (tdesc P t)=true/\tok P (telem P t)=true)(hd:σ.H d=none)(XD:d<PIN)
  (hK:K (.one (.vec d sz 0 0)) (σ.withH (upd σ.H d (some [])))):OpA P m o σ K :=
 zhx hm (zyp ho Wr.1 Wr.2.1 Wr.2.2 hd XD) rfl hK
theorem RA.nilSplit{w:World}{ok:Nat->Prop}{ρ:Nat->Option Nat}{xs:List (List T)}{v:Value}(h:RA w ok ρ (.one (.t (.seq none xs))) v) :
  (xs=[]/\RA w ok ρ (.one (.t (.seq (some true) []))) v)\/RA w ok ρ (.one (.t (.seq (some false) xs))) v:=by
 cases h with
 |one h=>cases h with
  |t h=>cases h with
   |@seq _ _ A n c sz u blk off g1 g2 g0 g3 g4 g5 g6 g7 g8 =>
    cases A with
    |none =>
     have:c=0:=g0 rfl;have:xs=[]:=wbd.1 (by omega);subst this;exact .inl ⟨rfl,.one (.t (.seq g1 g2 g0 (fun _=>rfl) (fun e=>by cases e) g5 g6 g7 g8))⟩
    |some A=>exact .inr (.one (.t (.seq g1 g2 g0 (fun e=>by cases e) (fun _=>by simp) g5 g6 g7 g8)))
theorem Q9.nil1{f:FuncId}{xs:List (List T)}{r:TV}(h0:xs=[]->Q9 P f [.one (.seq (some true) [])] r)(h1:Q9 P f [.one (.seq (some false) xs)] r):Q9 P f [.one (.seq none xs)] r:=by
 refine⟨h1.1,fun ok w vs YA hv=>?_⟩;obtain⟨hs,hg⟩:=hv;have h:=hg 0 (by simp) (by rw[hs];simp);rcases RA.nilSplit h with⟨e,h⟩|h
 .exact(h0 e).2 ok w vs YA ⟨hs,fun i hi Y6=>by
   obtain rfl:i=0:=by simpa using hi
   exact h⟩
 .exact h1.2 ok w vs YA ⟨hs,fun i hi Y6=>by
   obtain rfl:i=0:=by simpa using hi
   exact h⟩
end Go.Abs
namespace Go.Abs
variable {P:Program}
def zmk(P:Program)(rr:ResultVar)(b sz n:Nat)(cs:List C)(e:Exit)(σ:St):Prop :=
 (e = .ret\/e = .normal)/\zal P σ rr/\zaT P σ rr = .one (.vec b sz 0 n)/\∃ l,σ.H b=some (cs++l)
@[go_sem] theorem fret1{σ:St}{rr:ResultVar}{b sz n:Nat}{cs:List C}:zmk P rr b sz n cs .ret σ=(zal P σ rr/\zaT P σ rr = .one (.vec b sz 0 n)/\∃ l,σ.H b=some (cs++l)):=by simp[zmk]
def zhO(P:Program)(f:FuncId)(args:List TV)(sz n:Nat)(cs:List C):Prop :=
 ∀ H d,H d=none->d<PIN->Zf P f (args.map emb) H (.one (.vec d sz 0 n)) (upd H d (some cs))
theorem zj3(hm:P.follows .mixedOrders=true){f:FuncId}{fn:Func}{c:Code}{k:Nat}{rr:ResultVar}{args:List TV}{b sz n:Nat}{cs:List C}(Xb:∀ (as:Array Value) w,(callFunc f as).run P w = .ok (.enter f as) w)(hf:P.funcs[f]? = some fn)
  (hb:fn.body=some c) (hn:fn.ntmps=k) (UK:fn.results=[rr].toArray) (hl:args.length<=k) (Vt:k<=PIN) (YL:cs.all zd4=true) (h:wpA P c (zmk P rr b sz n cs) (zbb k (args.map emb) noH)):zhO P f args sz n cs:=by
 subst hn;have e:fn.results.toList=[rr]:=by rw[UK]
 intro H d hd XD;refine⟨Xb,fun ρ ok w vs hH hv=>?_⟩;have Va:zaH w ok noρ (args.map emb) vs:=by
  refine⟨hv.1,fun i hi Y6=>?_⟩;have:=hv.2 i hi Y6;simp only[Qq]at this ⊢;exact zew this _ rfl
 refine calls_of_wp hf hb (Code.wp_mono ?_ (zdD hm c _ _ noρ ok _ w (zdP ⟨fun b cs hb=>(by cases hb),fun _ _=>rfl,fun _ _ _ h=>(by cases h),fun n hn=>⟨(hH.okR n hn).1,fun _ h=>(by cases h)⟩⟩ Va (by rw[Va.1];simpa using hl) Vt) h));rintro e' a w' ⟨σ,ρ1,ok1,⟨he,YX,Ve,l,Y5⟩,s,g⟩;have KB:zal P σ rr:=YX;obtain⟨v,r1,r2⟩:=zdv (P:=P) (fn:=fn) s (by rw[e];intro r hr;simp at hr;subst hr;exact KB);have r3:RA w' ok1 ρ1 (.one (.vec b sz 0 n)) v:=by
  rw[e]at r2;simp only[zb7]at r2;rw[Ve]at r2;exact r2
 obtain⟨c0,arr,el,k1,k2,k3,k4⟩:=s.heap b (cs++l) Y5;rw[Qj]at k3;have XT:w.heap.size<=c0:=by
  rcases g.img b c0 k1 with⟨b',h1⟩|h1
  .cases h1
  .exact h1
 have Vx:ρ d=none:=hH.dom d hd;have Y4:∀ n,n<w.heap.size->w'.heap[n]? = w.heap[n]?:=fun n hn=>g.same n hn (fun b e=>by cases e)
 have himgρ:∀ x n,ρ x=some n->n<w.heap.size:=fun x n hx=>by
  cases DQ:H x with
  |none=>rw[hH.dom x DQ]at hx;cases hx
  |some csx =>
   obtain⟨cx,ax,ex,q1,q2,_⟩:=hH.heap x csx DQ;rw[hx]at q1;cases q1
   rcases was n w.heap.size with h3|h3
   .exact h3
   .simp[wcr h3]at q2
 have hk:zai ok w w':=fun n hn=>Y4 n (hH.okR n hn).1
 have hρ':∀ x y,ρ x=some y->ext ρ d (some c0) x=some y:=fun x y hx=>by
  unfold ext;rw[Qb (fun e=>by rw[e,Vx]at hx;cases hx)];exact hx
 have main:∃ v' ρ'' ok'',Ending.returned v = .returned v'/\RA w' ok'' ρ'' (.one (.vec d sz 0 n)) v'/\HR ρ'' ok'' (upd H d (some cs)) w'/\Goes ρ ok w ρ'' ok'' w'/\∀ b c,ρ b=some c->ρ'' b=some c:=by
  refine⟨v,ext ρ d (some c0),ok1,rfl,?_,⟨fun x cs2 hx=>?_,fun x hx=>?_,fun x y n hx hy=>?_,fun n hn=>⟨(s.okR n hn).1,fun x hx=>?_⟩⟩,⟨g.size,fun n hn _=>Y4 n hn,g.shape,fun x n hx=>?_,g.up,fun n hn=>?_,fun x hx=>.inl ?_,g.env⟩,hρ'⟩
  .cases r3 with
   |one r3=>cases r3 with
    |vec h1 h2 h3 h4 =>
     rw[k1]at h1;cases h1
     exact .one (.vec (by simp[ext]) h2 h3 h4)
  .simp only[upd]at hx
   split at hx
   .subst x;cases hx
    exact⟨c0,arr,el,by simp[ext],k2,by omega,fun j hj Yz=>by
     have:=k4 j (by rw[Qj];omega) Yz;rw[wbt hj]at this;exact this.tree ((wai.1 YL) _ (Qh hj))⟩
   .obtain⟨cx,ax,ex,q1,q2,q3,q4⟩:=hH.heap x cs2 hx
    refine⟨cx,ax,ex,hρ' _ _ q1,by rw[Y4 cx (himgρ _ _ q1)];exact q2,q3,fun j hj Yz=>(q4 j hj Yz).mono hk g.up g.shape hρ'⟩
  .simp only[upd]at hx
   split at hx
   .cases hx
   .unfold ext;rw[Qb ‹_›];exact hH.dom x hx
  .unfold ext at hx hy
   split at hx<;>split at hy
   .subst_vars;rfl
   .cases hx;have:=himgρ _ _ hy;omega
   .cases hy;have:=himgρ _ _ hx;omega
   .exact hH.inj x y n hx hy
  .unfold ext at hx
   split at hx
   .cases hx;exact(s.okR _ hn).2 b k1
   .rcases g.down n hn with k|⟨b',k⟩|k
    .exact(hH.okR n k).2 x hx
    .cases k
    .have:=himgρ _ _ hx;omega
  .unfold ext at hx
   split at hx
   .cases hx;exact .inr XT
   .exact .inl ⟨x,hx⟩
  .rcases g.down n hn with k|⟨b',k⟩|k
   .exact .inl k
   .cases k
   .exact .inr (.inr k)
  .unfold ext;rw[Qb (by omega)]
 have XU:a.defers=[]/\∃ v,(results fn a.tmps).run P w' = .ok v w'/\∃ v' ρ'' ok'',Ending.returned v = .returned v'/\RA w' ok'' ρ'' (.one (.vec d sz 0 n)) v'/\HR ρ'' ok'' (upd H d (some cs)) w'/\Goes ρ ok w ρ'' ok'' w'/\∀ b c,ρ b=some c->ρ'' b=some c :=
  ⟨s.defers,v,r1,main⟩
 rcases he with rfl|rfl<;>exact XU
theorem zf3{m:Nat}{f:FuncId}{as:List AV}{tvs:List TV}{σ:St}{K:AV->St->Prop}(d:Nat){sz n:Nat}{cs:List C}(hm:m=1\/m=2)(h:zhO P f tvs sz n cs)(YY:as=tvs.map emb)(hd:σ.H d=none)(XD:d<PIN)
  (hK:K (.one (.vec d sz 0 n)) (σ.withH (upd σ.H d (some cs)))):ZK P m f as σ K:=YY▸.inr (.inl ⟨hm,_,_,h σ.H d hd XD,hK⟩)
end Go.Abs
namespace Go.Abs
section
variable {P:Program} {σ:St} {w w₀:World} {a:Act} {ρ:Nat->Option Nat} {ok:Nat->Prop}
theorem zra{t:TypeId}{k:IntKind}(h:intD (tdesc P t)=some k):tdesc P t = .int k:=by
 unfold intD at h;split at h
 .cases h;assumption
 .cases h
theorem zrF{L:Nat}{t:TypeId}(XN:L*tbytes P (telem P t)<=2^47)(h0:0<tbytes P (telem P t)):IntKind.wrap .i64 (L:Int)=L:=by
 have:L*1<=L*tbytes P (telem P t):=waz _ h0;exact Q6 (by omega) (by omega)
theorem zjZ{e:TypeId}{z:Value}{L:Nat}(hz:(P.info? e).bind (·.zero)=some z)(VG:z.cells.size=tsize P e)(h3:tok P e=true) :
  (if L*tsize P e=0 then(pure #[]:Sem (Array Value))else do pure (Builtin.zeroCells (<-zeroValue e).cells L)).run P w = .ok (Builtin.zeroCells z.cells L) w:=by
 split
 .rename_i h
  have:Builtin.zeroCells z.cells L=#[]:=by
   apply wdq;simp only[Builtin.zeroCells,Array.size_map,Array.size_range];rw[VG];exact h
  rw[this];rfl
 .rw[Sem.run_bind,zee h3 hz];rfl
theorem zs6{t t' ty:TypeId}{c0 off n c L:Nat}(h1:tok P t=true)(h2:isSliceD (tdesc P t)=true)(h3:tok P (telem P t)=true)(h4:tok P t'=true)(h5:intD (tdesc P t')=some .i64)(hL:L*tbytes P (telem P t)<=2^47)(XN:0<tbytes P (telem P t))
  (hc:n+L<=c) {z:Value} (hz:(P.info? (telem P t)).bind (·.zero)=some z) (VG:z.cells.size=tsize P (telem P t)) {w':World} (YN:(storeCells ⟨c0,off+n*tsize P (telem P t),none⟩ (Builtin.zeroCells z.cells L).toList 0).run P w = .ok () w') :
  (Builtin.append_ #[t,t'] ty #[.slice (some ⟨c0,off,none⟩) n c,.int .i64 (L:Int)]).run P w = .ok (.slice (some ⟨c0,off,none⟩) (n+L) c) w':=by
 obtain⟨i,hi,Jw⟩:=zeg (w:=w) h3;have NE:tbytes P (telem P t)=i.bytes:=by simp[tbytes,hi]
 unfold Builtin.append_;simp only[wa2,wa3,wa7];rw[Sem.run_bind,ZE h1,zaK h2];simp only[Result.andThen];rw[Sem.run_bind,zaz h3];simp only[Result.andThen];rw[Sem.run_bind,ZE h4,zra h5];simp only[Result.andThen];rw[Sem.run_bind];simp only[Result.andThen,Sem.run_pure,if_true];have Gk:(asInt (.int .i64 (L:Int))).run P w = .ok (L:Int) w:=rfl;rw[Sem.run_bind,Gk];simp only[Result.andThen,zrF hL XN,wcV,wa4,if_false];rw[Qb (by omega),Sem.run_bind,Jw];simp only[Result.andThen];rw[Qb (by rw[<-NE];intro h;omega)];simp only[wbD];rw[Sem.run_bind];simp only[Sem.run_pure,Result.andThen];rw[Qc hc,Sem.run_bind,zjZ hz VG h3];simp only[Result.andThen];rw[Sem.run_bind,zcG,YN];rfl
theorem zst{t t' ty:TypeId}{A:Option Addr}{n c L:Nat}(h1:tok P t=true)(h2:isSliceD (tdesc P t)=true)(h3:tok P (telem P t)=true)(h4:tok P t'=true)(h5:intD (tdesc P t')=some .i64)(hL:L*tbytes P (telem P t)<=2^47)
  (hc:c<n+L) (hb:(n+L)*tbytes P (telem P t)<=2^47) (XN:0<tbytes P (telem P t)) {z:Value} (hz:(P.info? (telem P t)).bind (·.zero)=some z) (VG:z.cells.size=tsize P (telem P t)) {old:Array Value} (Un:∀ w,w.heap=w₀.heap->(Builtin.firstCells (tsize P (telem P t)) n (.slice A n c)).run P w = .ok old w)
  (hw:w.heap=w₀.heap) :
  ∃ (k:Nat) (rest:Array Value),n+L<=k/\rest.size=(k-(n+L))*z.cells.size/\(Builtin.append_ #[t,t'] ty #[.slice A n c,.int .i64 (L:Int)]).run P w =
   .ok (.slice (some ⟨w.heap.size,0,none⟩) (n+L) k) { w with heap:=w.heap.push (.cells (old++Builtin.zeroCells z.cells L++rest) (telem P t)),drawn:=w.drawn+1 }:=by
 refine⟨(Question.appendCap (n+L) c (telem P t)).cut (w.tape w.drawn (Question.appendCap (n+L) c (telem P t))),Builtin.zeroCells z.cells ((Question.appendCap (n+L) c (telem P t)).cut (w.tape w.drawn (Question.appendCap (n+L) c (telem P t)))-(n+L)),?_,by simp[Builtin.zeroCells],?_⟩
 .simp only[Question.cut];omega
 generalize hk:(Question.appendCap (n+L) c (telem P t)).cut (w.tape w.drawn (Question.appendCap (n+L) c (telem P t)))=k;obtain⟨i,hi,Jw⟩:=zeg (w:=w) h3;have NE:tbytes P (telem P t)=i.bytes:=by simp[tbytes,hi]
 unfold Builtin.append_;simp only[wa2,wa3,wa7];rw[Sem.run_bind,ZE h1,zaK h2];simp only[Result.andThen];rw[Sem.run_bind,zaz h3];simp only[Result.andThen];rw[Sem.run_bind,ZE h4,zra h5];simp only[Result.andThen];rw[Sem.run_bind];simp only[Result.andThen,Sem.run_pure,if_true];have Gk:(asInt (.int .i64 (L:Int))).run P w = .ok (L:Int) w:=rfl;rw[Sem.run_bind,Gk];simp only[Result.andThen,zrF hL XN,wcV,wa4,if_false];rw[Qb (by omega),Sem.run_bind,Jw];simp only[Result.andThen];rw[Qb (by rw[<-NE];intro h;omega)];simp only[wbD];rw[Sem.run_bind];simp only[Sem.run_pure,Result.andThen];rw[Qb (by omega),Sem.run_bind,Jw];simp only[Result.andThen];have L9:(n+L)*1<=(n+L)*tbytes P (telem P t):=waz _ XN;rw[Qb (by simp only[IntKind.max];rintro⟨h,_⟩;simp[IntKind.signed,IntKind.bits]at h;omega),Sem.run_bind,Jw];simp only[Result.andThen];rw[Qb (by rw[<-NE];have:=growslice_fits hc (by simpa using hb);simp at this ⊢;omega),Sem.run_bind,zm8 rfl,hk];simp only[Result.andThen];obtain⟨i',Y6,NF⟩:=zeg (P:=P) (w:={ w with drawn:=w.drawn+1 }) h3;rw[Sem.run_bind,NF];simp only[Result.andThen];have Vl:∀ b:Nat,(askRoom b).run P { w with drawn:=w.drawn+1 } = .ok () { w with drawn:=w.drawn+1 }:=fun b=>by unfold askRoom;split<;>rfl
 rw[Sem.run_bind,Vl];simp only[Result.andThen];rw[Sem.run_bind,Un { w with drawn:=w.drawn+1 } hw];simp only[Result.andThen];rw[Sem.run_bind,zjZ hz VG h3];simp only[Result.andThen];rw[Sem.run_bind,zee h3 hz];simp only[Result.andThen,newRow,newObj];rfl
theorem zvX{o:Oper}{b n L:Nat}{x y:Operand}{t t':TypeId}(ho:o.op = .call { callee:=.builtin .append,args:=#[x,y],argTypes:=#[t,t'] })(h1:tok P t=true)(h2:isSliceD (tdesc P t)=true)(h3:tok P (telem P t)=true)(h4:tok P t'=true)
  (h5:intD (tdesc P t')=some .i64) {z:List C} (hz:tzero P (telem P t)=some z) (Vk:z.length=tsize P (telem P t)) (XN:0<tbytes P (telem P t)) {cs:List C} (hx:ev σ.s x = .one (.vec b (tsize P (telem P t)) 0 n)) (YL:σ.H b=some cs)
  (hn:cs.length=n*tsize P (telem P t)) (hy:ev σ.s y=litI .i64 (L:Int))
  (hb:(n+L)*tbytes P (telem P t)<=2^47) (Wn:b<PIN):zdj P o σ (.one (.vec b (tsize P (telem P t)) 0 (n+L))) (σ.renew b (cs.map (jC b)++Zg L z)):=by
 intro ρ ok a w h;obtain⟨zv,Uz,Kn⟩:=zc1 hz;have VG:zv.cells.size=tsize P (telem P t):=by
  have:=(zcb (w:=w) (ok:=ok) (ρ:=ρ) Kn).1;rw[<-Vk,this];simp
 have Y3:=Zj h x;have Xx:=Zj h y;rw[hx]at Y3;rw[hy]at Xx;have Uo:=Xx.int_inv;obtain⟨c,cap,n0,hρb,Kw,k2,k3,k4⟩:=Y3.vec_inv;have Oe:L*tbytes P (telem P t)<=2^47:=Qn (wak _ (by omega)) hb;have zr:=fun(w:World) (ok:Nat->Prop) (ρ:Nat->Option Nat)=>ziC (zcb (w:=w) (ok:=ok) (ρ:=ρ) Kn).1 (zcb (w:=w) (ok:=ok) (ρ:=ρ) Kn).2 L
 have Kl:(Array.range (L*z.length)).map (zv.cells[· % zv.cells.size]!)=Builtin.zeroCells zv.cells L:=by unfold Builtin.zeroCells;rw[VG,Vk]
 rw[Kl]at zr;have Xu:(Zg L z).length=L*tsize P (telem P t):=by rw[zdy,Vk]
 generalize DZ:Builtin.zeroCells zv.cells L=vs at zr;have Up:vs.size=(Zg L z).length:=(zr w ok ρ).1;obtain⟨cb,arr,el,e1,e2,e3,e4⟩:=h.heap b cs YL;rw[hρb]at e1;cases e1
 have Xl:n0=arr.size:=by
  obtain⟨el',hs⟩:=k3;simp[World.shape?,e2]at hs;exact hs.2.symm
 subst Xl;by_cases XV:n+L<=cap
 ·
  have Vl:n*tsize P (telem P t)+L*tsize P (telem P t)<=arr.size:=by
   have:(n+L)*tsize P (telem P t)<=cap*tsize P (telem P t):=wak _ XV;rw[war]at this;omega
  have YR:∀ v∈vs.toList,zcB v=true:=fun v hv=>by
   obtain⟨j,hj,rfl⟩:=waK.1 hv;have X1:j<vs.size:=by simpa using hj
   have:=((zr w ok ρ).2 j (by omega) X1).oneCell;simpa using this
  obtain⟨w',arr',r1,r2,r3,r4,r5,r6,r7⟩:=zh8 (P:=P) (c:=c) (off:=n*tsize P (telem P t)) vs.toList 0 w arr e2 YR (by simp;omega);have hk:zai ok w w':=fun m hm=>r3 m (fun e=>(h.okR m hm).2 b (e▸hρb))
  have hs:∀ m el k,w.shape? m=some (el,k)->w'.shape? m=some (el,k):=fun m el' k Vc=>by
   by_cases hm:m=c
   .subst hm;simp[World.shape?,e2]at Vc;simp[World.shape?,r4,r5,Vc]
   .simpa[World.shape?,r3 m hm]using Vc
  have Xw:=zs6 (P:=P) (w:=w) (w':=w') (t:=t) (t':=t') (ty:=o.type) (c0:=c) (off:=0) (n:=n) (c:=cap) (L:=L) h1 h2 h3 h4 h5 Oe XN XV Uz VG (by rw[waY,DZ];exact r1);refine⟨.slice (some ⟨c,0,none⟩) (n+L) cap,w',ρ,ok,zef ho (by rw[Kw,Uo];exact Xw),.one (.vec hρb XV (hs _ _ _ (by simp[World.shape?,e2];rfl) |> fun h=>⟨_,h⟩) k4),⟨⟨fun b' cs' hb'=>?_,fun b' hb'=>?_,h.inj,fun m hm=>⟨by rw[r2];exact(h.okR m hm).1,(h.okR m hm).2⟩⟩,h.size,fun t'=>?_,h.defers,h.small⟩,⟨by omega,fun m hm hb'=>r3 m (fun e=>hb' b (e▸hρb)),hs,fun b' m hb'=>.inl ⟨b',hb'⟩,fun _ h=>h,fun _ h=>.inl h,fun _ _=>.inl rfl,r7⟩⟩
  .simp only[zbk]at hb'
   split at hb'
   .subst b';cases hb'
    refine⟨c,arr',el,hρb,r4,by simp only[Qj,Qm];omega,fun j hj Yz=>?_⟩;have e6:=r6 j;simp only[wap]at e6;by_cases hjn:j<cs.length
    .rw[wbt (by simpa using hjn)]
     rw[Qb (by omega),waW Yz,waW (by omega)]at e6;rw[wa0 e6];simp only[Qq];exact((e4 j hjn (by omega)).mono hk (fun _ h=>h) hs (fun _ _ h=>h)).junked (fun _ _ _ h=>h)
    .have DL:j<cs.length+(Zg L z).length:=by have:=hj;simp only[Qj,Qm]at this;exact this
     have V7:n*tsize P (telem P t)<=j/\j<n*tsize P (telem P t)+vs.toList.length:=⟨by omega,by rw[wcK];omega⟩
     rw[wbA (by simpa using hjn)];rw[Qc V7,waW Yz,waa (by rw[wcK];omega)]at e6;rw[wa0 e6];have hr:=(zr w' ok ρ).2 (j-n*tsize P (telem P t)) (by omega) (by omega);simp only[Qm,wbO,hn];simp only[waY,wap]at *
     exact hr
   .rename_i hne
    simp only[wbq]at hb';obtain⟨cs0,V9,rfl⟩:=hb';obtain⟨c2,arr2,el2,f1,f2,f3,f4⟩:=h.heap b' cs0 V9;have WA:c2≠c:=fun e=>hne (h.inj b' b c2 f1 (e▸hρb))
    exact⟨c2,arr2,el2,f1,by rw[r3 c2 WA];exact f2,by simpa using f3,fun j hj Yz=>by
     simp only[Qq];exact((f4 j (by simpa using hj) Yz).mono hk (fun _ h=>h) hs (fun _ _ h=>h)).junked (fun _ _ _ h=>h)⟩
  .simp only[zbk]at hb'
   split at hb'
   .cases hb'
   .simp only[wct]at hb';exact h.dom b' hb'
  .simp only[zgf]
   exact(h.lift hk (fun _ h=>h) hs (fun _ _ h=>h) t').junked (fun _ _ _ h=>h)
 ·
  have Un:∀ w',w'.heap=w.heap->(Builtin.firstCells (tsize P (telem P t)) n (.slice (some ⟨c,0,none⟩) n cap)).run P w' = .ok ((List.range (n*tsize P (telem P t))).map fun j=>(arr[j]?).getD undef).toArray w':=by
   intro w' UJ;unfold Builtin.firstCells;simp only[];refine zeQ _ fun j hj=>?_
   have:j<arr.size:=by omega
   rw[zg2 UJ];simp[World.cell?,e2,this]
  obtain⟨k,rest,hk,Xt,Xc⟩:=zst (P:=P) (w:=w) (w₀:=w) (ty:=o.type) (A:=some ⟨c,0,none⟩) (n:=n) (c:=cap) (L:=L) h1 h2 h3 h4 h5 Oe (by omega) hb XN Uz VG Un rfl;rw[DZ]at Xc;generalize UR:((List.range (n*tsize P (telem P t))).map fun j=>(arr[j]?).getD undef).toArray++vs++rest=ARR at Xc;have XX:((List.range (n*tsize P (telem P t))).map fun j=>(arr[j]?).getD undef).toArray.size=n*tsize P (telem P t):=by simp
  have Vm:ARR.size=k*tsize P (telem P t):=by
   rw[<-UR];simp only[wbW,XX];rw[Xt,Up,Xu,VG,<-war,<-war];congr 1;omega
  have YA:∀ m,ok m->m<w.heap.size:=fun m hm=>(h.okR m hm).1
  have hρ:∀ b' m,b'≠b->ρ b'=some m->ext ρ b (some w.heap.size) b'=some m:=fun b' m hne hm=>by simp[ext,hne,hm]
  have VR:=zdB (w:=w) (o:=.cells ARR (telem P t)) YA;have YF:∀ m,m<w.heap.size->(w.heap.push (.cells ARR (telem P t)))[m]? = w.heap[m]?:=fun m hm=>by simp[wb9,wca hm]
  have WB:∀ m el k,w.shape? m=some (el,k)->({ w with heap:=w.heap.push (.cells ARR (telem P t)) }:World).shape? m=some (el,k):=zc3;refine⟨.slice (some ⟨w.heap.size,0,none⟩) (n+L) k,_,ext ρ b (some w.heap.size),ok,zef ho (by rw[Kw,Uo];exact Xc),.one (.vec (c:=w.heap.size) (n:=ARR.size) (by simp[ext]) hk ⟨telem P t,by simp[World.shape?]⟩ (by rw[Vm];omega)),?_,?_⟩
  .have main:SR (ext ρ b (some w.heap.size)) ok (σ.renew b (cs.map (jC b)++Zg L z)) a { w with heap:=w.heap.push (.cells ARR (telem P t)) }:=by
    refine⟨⟨fun b' cs' hb'=>?_,fun b' hb'=>?_,fun b1 b2 m h1 h2=>?_,fun m hm=>⟨by have:=YA m hm;simp;omega,fun b' hb'=>?_⟩⟩,h.size,fun t'=>?_,h.defers,h.small⟩
    .simp only[zbk]at hb'
     split at hb'
     .subst b';cases hb'
      refine⟨w.heap.size,ARR,telem P t,by simp[ext],by simp,by rw[Vm];simp only[Qj,Qm,hn,Xu,<-war];exact wak _ hk,fun j hj Yz=>?_⟩;subst UR;by_cases hjn:j<cs.length
      .rw[wbt (by simpa using hjn)]
       rw[wbF (by simp;omega),wbF (by simp;omega)];simp only[Qq,wcf,wc1];have Yw:j<arr.size:=by omega
       have:=e4 j hjn Yw;rw[show(arr[j]?).getD undef=arr[j] by simp[Yw]];exact(this.mono (ρ':=ρ) VR (fun _ h=>h) WB (fun _ _ h=>h)).junked hρ
      .have DL:j<cs.length+(Zg L z).length:=by have:=hj;simp only[Qj,Qm]at this;exact this
       rw[wbA (by simpa using hjn)];rw[wbF (by rw[wbW,XX];omega),wdC (by rw[XX];omega)];have hr:=fun w'=>(zr w' ok (ext ρ b (some w.heap.size))).2 (j-n*tsize P (telem P t)) (by omega) (by omega)
       simp only[Qm,XX,hn];exact hr _
     .rename_i hne
      simp only[wbq]at hb';obtain⟨cs0,V9,rfl⟩:=hb';obtain⟨c2,arr2,el2,f1,f2,f3,f4⟩:=h.heap b' cs0 V9;refine⟨c2,arr2,el2,hρ _ _ hne f1,by rw[YF c2 (Yb h.toHR f1)];exact f2,by simpa using f3,fun j hj Yz=>?_⟩;simp only[Qq];exact((f4 j (by simpa using hj) Yz).mono (ρ':=ρ) VR (fun _ h=>h) WB (fun _ _ h=>h)).junked hρ
    .simp only[zbk]at hb'
     split at hb'
     .cases hb'
     .rename_i hne;simp only[wct]at hb';simp[ext,hne,h.dom b' hb']
    .simp only[ext]at h1 h2
     split at h1<;>split at h2
     .subst b1;subst b2;rfl
     .cases h1;have:=Yb h.toHR h2;omega
     .cases h2;have:=Yb h.toHR h1;omega
     .exact h.inj b1 b2 m h1 h2
    .simp only[ext]at hb'
     split at hb'
     .cases hb';have:=YA _ hm;omega
     .exact(h.okR m hm).2 b' hb'
    .simp only[zgf]
     exact(h.lift (ρ':=ρ) VR (fun _ h=>h) WB (fun _ _ h=>h) t').junked hρ
   exact main.drawn.1
  .refine⟨by simp,fun m hm _=>YF m hm,WB,fun b' m hb'=>?_,fun _ h=>h,fun _ h=>.inl h,fun b' hb'=>.inl (by unfold ext;rw[Qb (by omega)]),⟨rfl,rfl⟩⟩
   simp only[ext]at hb';split at hb'
   .cases hb';exact .inr (Qd _)
   .exact .inl ⟨b',hb'⟩
end
def zrb(P:Program)(t t':TypeId)(sz bytes:Nat)(z:List C):Prop:=tok P t=true/\isSliceD (tdesc P t)=true/\tok P (telem P t)=true/\tok P t'=true/\intD (tdesc P t')=some .i64/\tzero P (telem P t)=some z/\z.length=sz/\tsize P (telem P t)=sz/\tbytes P (telem P t)=bytes/\0<bytes
theorem zvY{P:Program}{m:Nat}{σ:St}{K:AV->St->Prop}{d:Nat}{ty:TypeId}{pos:String}{af:Array Edge}{g:Option (Nat×Bool)}{x y:Operand}{t t':TypeId}{α:Type}{f:α->List T}{sz bytes:Nat}(hm:2<=m)(z0:α)(Wr:zrb P t t' sz bytes ((f z0).map .t))(hf:∀ x,(f x).length=sz)(xs:List α){b n L:Nat}(hx:ev σ.s x = .one (.vec b sz 0 n))(hn:n=xs.length)(YL:σ.H b=some (Q5 f xs))
  (hy:ev σ.s y=litI .i64 (L:Int)) (hb:(xs.length+L)*bytes<=2^47) (Wn:b<PIN) (hK:K (.one (.vec b sz 0 (xs.length+L))) (σ.renew b (Q5 f (xs++List.replicate L z0)))) :
  OpA P m ⟨some d,.call { callee:=.builtin .append,args:=#[x,y],argTypes:=#[t,t'] },ty,pos,af,g⟩ σ K:=by
 obtain⟨h1,h2,h3,h4,h5,h6,h7,h8,rfl,We⟩:=Wr;subst hn;subst h8;have:=zvX (P:=P) (σ:=σ) (o:=⟨some d,.call { callee:=.builtin .append,args:=#[x,y],argTypes:=#[t,t'] },ty,pos,af,g⟩) rfl h1 h2 h3 h4 h5 h6 h7 We hx YL (zcC hf) hy hb Wn;rw[zko,zmL,<-zgM]at this;exact zhx hm this rfl hK
theorem zt5{P:Program}{σ:St}{o:Oper}{d n:Nat}{t:TypeId}{parts:Array (Nat×Operand)}(ho:o.op = .buildSlice t n parts)(h1:tok P t=true)(h2:isSliceD (tdesc P t)=true)(h3:tok P (telem P t)=true)
  (h4:n*tsize P (telem P t)<=2^24) (h5:0<n*tsize P (telem P t)) {z cs:List C} (hz:tzero P (telem P t)=some z) (h6:z.length=tsize P (telem P t))
  (YL:zaZ (fun i=>some (i*tsize P (telem P t),tsize P (telem P t))) (Zg n z) (parts.toList.map fun p=>(p.1,ev σ.s p.2))=some cs) (hd:σ.H d=none) (XD:d<PIN) :
  zdj P o σ (.one (.vec d (tsize P (telem P t)) 0 n)) (σ.withH (upd σ.H d (some cs))):=by
 intro ρ ok a w h;obtain⟨v,Vz,VD⟩:=zc1 hz;obtain⟨l1,l2⟩:=zcb (w:=w) (ok:=ok) (ρ:=ρ) VD;obtain⟨z1,z2⟩:=ziC l1 l2 n;obtain⟨arr',g1,g2,g3⟩:=zkV (w:=w) (ok:=ok) (ρ:=ρ) _ _ (parts.toList.map fun p=>(p.1,a.eval p.2)) _ cs _ (by simp) (zkw h parts.toList) z1 z2 YL;have YW:cs.length=n*tsize P (telem P t):=by rw[zj4 YL,zdy,h6]
 obtain⟨s1,s2⟩:=h.push (d:=d) XD hd (cs:=cs) (arr:=arr') (el:=telem P t) (by omega) g3;refine⟨.slice (some ⟨w.heap.size,0,none⟩) n n,_,_,_,?_,.one (.vec (c:=w.heap.size) (n:=arr'.size) (by simp[ext]) (Qd _) ⟨telem P t,by simp[World.shape?]⟩ (by omega)),s1,s2⟩;simp only[execOp,ho];refine Yu ?_;unfold Instr.buildSlice;rw[Sem.run_bind,ZE h1,zaK h2];simp only[Result.andThen];rw[Sem.run_bind,zaz h3];simp only[Result.andThen];rw[Qb (by omega),Qb (by omega),Sem.run_bind,zee h3 Vz];simp only[Result.andThen,Sem.run_bind,Sem.run_pure];have e2:(parts.map fun p=>(p.1,a.eval p.2)).toList=parts.toList.map fun p=>(p.1,a.eval p.2):=by simp
 rw[e2,<-h6];rw[<-h6]at g1;rw[g1];simp only[newRow,newObj];rfl
theorem zkx{P:Program}{m:Nat}{σ:St}{K:AV->St->Prop}{o:Oper}{t:TypeId}{n:Nat}{parts:Array (Nat×Operand)}(d sz:Nat)(z:List C){cs:List C}(ho:o.op = .buildSlice t n parts)(hm:2<=m)
  (Wr:tok P t=true/\isSliceD (tdesc P t)=true/\tok P (telem P t)=true/\tzero P (telem P t)=some z/\z.length=sz/\tsize P (telem P t)=sz/\n*sz<=2^24/\0<n*sz)
  (YL:zaZ (fun i=>some (i*sz,sz)) (Zg n z) (parts.toList.map fun p=>(p.1,ev σ.s p.2))=some cs) (hd:σ.H d=none) (XD:d<PIN)
  (hK:K (.one (.vec d sz 0 n)) (σ.withH (upd σ.H d (some cs)))):OpA P m o σ K:=by
 obtain⟨h1,h2,h3,h4,h5,h6,h7,h8⟩:=Wr;subst h6;exact zhx hm (zt5 ho h1 h2 h3 h7 h8 h4 h5 YL hd XD) rfl hK
theorem RA.weakS{w:World}{ok:Nat->Prop}{ρ:Nat->Option Nat}{nl:Option Bool}{xs:List (List T)}{v:Value}(h:RA w ok ρ (.one (.t (.seq nl xs))) v):RA w ok ρ (.one (.t (.seq none xs))) v:=by
 cases h with
 |one h=>cases h with
  |t h=>cases h with
   |seq g1 g2 g0 g3 g4 g5 g6 g7 g8=>exact .one (.t (.seq g1 g2 g0 (fun e=>by cases e) (fun e=>by cases e) g5 g6 g7 g8))
theorem zic{σ:St}(t:Nat){nl:Option Bool}{xs:List (List T)}(hs:σ.s t = .one (.t (.seq nl xs))):GStep σ (σ.put t (.one (.t (.seq none xs)))):=by
 intro ρ ok a w h;refine⟨ρ,ok,⟨h.toHR,h.size,fun t'=>?_,h.defers,h.small⟩,Goes.refl ρ ok w⟩;have:=h.slots t';simp only[St.put];split
 .subst_vars;rw[hs]at this;exact this.weakS
 .exact this
theorem zaW{H:QD}{a b:AV}{x y:TV}(h1:FzA H a x)(h2:FzA H b y):FzA H (.tup [a,b]) (.tup [x,y]):=.tup rfl fun j h h'=>by
 match j,h,h' with
 |0,_,_=>exact h1
 |1,_,_=>exact h2
 |j+2,h,_=>simp at h;omega
section
variable {P:Program}
theorem QN.done{ops:Array Oper}{q:St->Prop}{fuel:Nat}{listed:Array Bool}{σ:St}(hr:Region.ready .any ops listed=[])(hq:q σ):QN P ops q fuel listed σ :=
 fun ρ ok a w h _ _ hn=>wpAny_done hr (hn σ ρ ok a w hq h (Goes.refl _ _ _)) fuel
def zjK(P:Program)(ops:Array Oper)(q:St->Prop)(fuel:Nat)(listed:Array Bool)(σ:St)(i:Nat)(o:Oper):Prop :=
 zbd σ.n o.dst=true/\BR (zbz ops.toList σ o.guard) (QW P 2 o σ fun v σ'=>QN P ops q fuel (listed.setIfInBounds i true) (σ'.putO o.dst v)) (QN P ops q fuel (listed.setIfInBounds i true) (σ.putO o.dst undefA))
theorem QN.all{ops:Array Oper}{q:St->Prop}{fuel:Nat}{listed:Array Bool}{σ:St}(rs:List Nat)(hr:Region.ready .any ops listed=rs)(hne:rs≠[])
  (h:∀ i∈rs,∃ o,ops[i]? = some o/\zjK P ops q fuel listed σ i o):QN P ops q (fuel+1) listed σ:=by
 intro ρ ok a w hs Q' hp hn;refine wpAny_all hr hne fun i hi=>?_
 obtain⟨o,ho,hd,hb⟩:=h i hi;unfold wpOp;simp only[ho];unfold BR at hb;split at hb
 .rename_i hw
  rw[Qc (zfM hs hw)];refine .inl (Oper.wp_mono ?_ (zkb hs hd hb));rintro a' w' ⟨x,v,τ,ρ',ok',hk,rfl,hx,K4,hg,OV⟩;exact hk ρ' ok' _ w' (K4.putA (by rw[OV];exact hd) hx) Q' hp (fun σ'' ρ'' ok'' a'' w'' q1 s1 g1=>hn σ'' ρ'' ok'' a'' w'' q1 s1 (hg.trans g1))
 .rename_i hw
  rw[Qb (by rw[zfM hs hw];simp)];exact hb ρ ok _ w (hs.undefA hd) Q' hp hn
 .exact hb.elim
theorem QN.one{ops:Array Oper}{q:St->Prop}{fuel:Nat}{listed:Array Bool}{σ:St}(i:Nat)(o:Oper)(hr:Region.ready .any ops listed=[i])(ho:ops[i]? = some o)(h:zjK P ops q fuel listed σ i o):QN P ops q (fuel+1) listed σ :=
 .all [i] hr (by simp) fun j hj=>by rw[Qr.1 hj];exact⟨o,ho,h⟩
theorem QN.two{ops:Array Oper}{q:St->Prop}{fuel:Nat}{listed:Array Bool}{σ:St}(i j:Nat)(o o':Oper)(hr:Region.ready .any ops listed=[i,j])(ho:ops[i]? = some o)(FX:ops[j]? = some o')(h:zjK P ops q fuel listed σ i o)(h':zjK P ops q fuel listed σ j o'):QN P ops q (fuel+1) listed σ :=
 .all [i,j] hr (by simp) fun k hk=>by
  rcases wab.1 hk with rfl|hk
  .exact⟨o,ho,h⟩
  .rw[Qr.1 hk];exact⟨o',FX,h'⟩
def zht(P:Program)(o:Oper)(σ:St)(v:AV):Prop:=∀ ρ ok a w,SR ρ ok σ a w->∃ u,(∀ w',(execOp a.eval o).run P w' = .ok (.value u) w')/\RA w ok ρ v u
theorem QN.take{ops:Array Oper}{q:St->Prop}{fuel:Nat}{listed:Array Bool}{σ:St}(i:Nat){o:Oper}{v:AV}(hi:ops[i]? = some o)(hs:Region.noSelect ops=true)(hf:Region.free .any ops listed i=true)(hr:(Region.ready .any ops listed).contains i=true)
  (hg:o.guard=none) (hd:zbd σ.n o.dst=true) (hy:zht P o σ v) (h:QN P ops q fuel (listed.setIfInBounds i true) (σ.putO o.dst v)):QN P ops q (fuel+1) listed σ:=by
 intro ρ ok a w Js Q' hp hn;obtain⟨u,hu,Fh⟩:=hy ρ ok a w Js;exact wpAny_take hi hs hf hr (fun c a w h=>Qo h (hp c _ w)) (.inl ⟨by unfold Region.wanted;rw[hg],hu⟩) (h ρ ok _ w (Js.putA hd Fh) Q' hp hn)
theorem QN.take'{ops:Array Oper}{q:St->Prop}{fuel:Nat}{listed:Array Bool}{σ:St}(i:Nat){d:Nat}{op:Op}{ty:TypeId}{pos:String}{af:Array Edge}{v:AV}(hi:ops[i]? = some ⟨some d,op,ty,pos,af,none⟩)(hs:Region.noSelect ops=true)(hf:Region.free .any ops listed i=true)(hr:(Region.ready .any ops listed).contains i=true)
  (hd:d<σ.n) (hy:zht P ⟨some d,op,ty,pos,af,none⟩ σ v) (h:QN P ops q fuel (listed.setIfInBounds i true) (σ.put d v)):QN P ops q (fuel+1) listed σ :=
 QN.take i hi hs hf hr rfl (by simpa[zbd]using hd) hy h
theorem QN.one'{ops:Array Oper}{q:St->Prop}{fuel:Nat}{listed:Array Bool}{σ:St}(i:Nat){d:Option Nat}{op:Op}{ty:TypeId}{pos:String}{af:Array Edge}(hr:Region.ready .any ops listed=[i])(ho:ops[i]? = some ⟨d,op,ty,pos,af,none⟩)
  (hd:zbd σ.n d=true) (h:QW P 2 ⟨d,op,ty,pos,af,none⟩ σ fun v σ'=>QN P ops q fuel (listed.setIfInBounds i true) (σ'.putO d v)):QN P ops q (fuel+1) listed σ :=
 QN.one i _ hr ho ⟨hd,h⟩
theorem QN.two'{ops:Array Oper}{q:St->Prop}{fuel:Nat}{listed:Array Bool}{σ:St}(i j:Nat){d d':Option Nat}{op op':Op}{ty ty':TypeId}{pos pos':String}{af af':Array Edge}(hr:Region.ready .any ops listed=[i,j])(ho:ops[i]? = some ⟨d,op,ty,pos,af,none⟩)(FX:ops[j]? = some ⟨d',op',ty',pos',af',none⟩)
  (hd:zbd σ.n d=true) (El:zbd σ.n d'=true) (h:QW P 2 ⟨d,op,ty,pos,af,none⟩ σ fun v σ'=>QN P ops q fuel (listed.setIfInBounds i true) (σ'.putO d v))
  (h':QW P 2 ⟨d',op',ty',pos',af',none⟩ σ fun v σ'=>QN P ops q fuel (listed.setIfInBounds j true) (σ'.putO d' v)):QN P ops q (fuel+1) listed σ :=
 QN.two i j _ _ hr ho FX ⟨hd,h⟩ ⟨El,h'⟩
theorem zdx{o:Oper}{σ:St}{x:Operand}(ho:o.op = .move x):zht P o σ (ev σ.s x):=fun ρ ok a w h =>
 ⟨a.eval x,fun w'=>(by simp only[execOp,ho];rfl),Zj h x⟩
end
end Go.Abs
