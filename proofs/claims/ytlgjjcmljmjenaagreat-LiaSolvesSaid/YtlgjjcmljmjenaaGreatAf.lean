/- At every input the call answers true and leaves its arguments as they were; no conditions. -/
import Derived.Test.YtlgjjcmljmjenaaGreatAe
set_option linter.unusedSimpArgs false
set_option linter.unusedVariables false
set_option maxRecDepth 100000
namespace Go.Abs
section
variable {P:Program} {m:Nat} {σ:St} {ρ:Nat->Option Nat} {ok:Nat->Prop} {a:Act} {w:World}
def YC(P:Program)(σ:St)(y:Operand)(sz n:Nat)(ys:List C):Prop:=ys.length=n*sz/\∀ (ρ:Nat->Option Nat) (ok:Nat->Prop) (a:Act) (w:World),SR ρ ok σ a w ->
 ∃ A' c',∃ vs:Array Value,a.eval y = .slice A' n c'/\(∀ w',w'.heap=w.heap->(Builtin.firstCells sz n (a.eval y)).run P w' = .ok vs w')/\vs.size=ys.length/\∀ j (hj:j<ys.length) (Yz:j<vs.size),RC w ok ρ ys[j] vs[j]
theorem YC.vec{y:Operand}{d sz n:Nat}{ys:List C}(hy:ev σ.s y = .one (.vec d sz 0 n))(hd:σ.H d=some ys)(hl:ys.length=n*sz):YC P σ y sz n ys:=by
 refine⟨hl,fun ρ ok a w h=>?_⟩;have Xx:=Zj h y;rw[hy]at Xx;obtain⟨c,cap,n0,hρb,Uo,k2,k3,k4⟩:=Xx.vec_inv;obtain⟨cb,arr,el,e1,e2,e3,e4⟩:=h.heap d ys hd;rw[hρb]at e1;cases e1
 refine⟨_,cap,((List.range (n*sz)).map fun j=>(arr[j]?).getD undef).toArray,Uo,fun w' UJ=>?_,by simp[hl],fun j hj Yz=>?_⟩
 .rw[Uo]
  unfold Builtin.firstCells;simp only[];refine zeQ _ fun j hj=>?_
  have:j<arr.size:=by omega
  rw[zg2 UJ];simp[World.cell?,e2,this]
 .have Yw:j<arr.size:=by omega
  have:=e4 j hj Yw;simp only[wcf,Qq,wc1];rw[show(arr[j]?).getD undef=arr[j] by simp[Yw]];exact this
theorem zvI{o:Oper}{d:Nat}{x y:Operand}{t t':TypeId}(ho:o.op = .call { callee:=.builtin .append,args:=#[x,y],argTypes:=#[t,t'] })(h1:tok P t=true)(h2:isSliceD (tdesc P t)=true)(h3:tok P (telem P t)=true)(h4:tok P t'=true)
  (h5:isSliceD (tdesc P t')=true) (hz:(tzero P (telem P t)).isSome=true) (Vk:((tzero P (telem P t)).getD []).length=tsize P (telem P t)) (XN:0<tbytes P (telem P t)) {ys:List C} {n':Nat} (hx:ev σ.s x = .one (.t (.seq (some true) []))) (hy:YC P σ y (tsize P (telem P t)) n' ys)
  (YQ:0<n') (hb:n'*tbytes P (telem P t)<=2^47) (hd:σ.H d=none) (XD:d<PIN):zdj P o σ (.one (.vec d (tsize P (telem P t)) 0 n')) (σ.withH (upd σ.H d (some ys))):=by
 intro ρ ok a w h;obtain⟨z,hz⟩:=wba.1 hz;rw[hz]at Vk;simp only[waV]at Vk;obtain⟨zv,Uz,Kn⟩:=zc1 hz;have VG:zv.cells.size=tsize P (telem P t):=by
  have:=(zcb (w:=w) (ok:=ok) (ρ:=ρ) Kn).1;rw[<-Vk,this];simp
 have Y3:=Zj h x;rw[hx]at Y3;obtain⟨A,c,Kw,g2,g0,g3⟩:∃ A c,a.eval x = .slice A 0 c/\0<=c/\(A=none->c=0)/\A=none:=by
  generalize a.eval x=v at Y3;obtain⟨A,c,sz,blk,off,u,rfl,k2,k0,k3,_⟩:=Y3.seq_inv2;exact⟨A,c,rfl,k2,k0,k3 rfl⟩
 subst g3;obtain rfl:=g0 rfl;obtain⟨Xu,hy⟩:=hy;obtain⟨A',c',vs,Uo,Vi,Up,V8⟩:=hy ρ ok a w h;rw[Uo]at Vi;obtain⟨k,rest,hk,Xt,Xc⟩:=zil (P:=P) (w:=w) (w₀:=w) (ty:=o.type) (A:=none) (A':=A') (n:=0) (c:=0) (n':=n') (c':=c') h1 h2 h3 h4 h5 (by omega) (by simpa using hb) XN Uz (old:=#[]) (fun w' _=>rfl) Vi rfl;rw[waY]at hk Xt Xc;obtain⟨s1,s2⟩:=h.push (d:=d) XD hd (cs:=ys) (arr:=#[]++vs++rest) (el:=telem P t) (by simp only[wcs,wbW];omega) (fun j hj Yz=>by
  simp only[wcs];rw[wbF (by omega)];exact V8 j hj (by omega))
 obtain⟨r1,r2⟩:=s1.drawn;refine⟨.slice (some ⟨w.heap.size,0,none⟩) n' k,_,_,_,zef ho (by rw[Kw,Uo];exact Xc),?_,r1,s2.trans r2⟩;refine .one (.vec (c:=w.heap.size) (n:=(#[]++vs++rest).size) (by simp[ext]) hk ⟨telem P t,by simp[World.shape?]⟩ ?_);simp only[wcs,wbW,waY];rw[Xt,Up,Xu,VG,<-war];exact wak _ (by omega)
theorem zvJ{o:Oper}{b n:Nat}{x y:Operand}{t t':TypeId}(ho:o.op = .call { callee:=.builtin .append,args:=#[x,y],argTypes:=#[t,t'] })(h1:tok P t=true)(h2:isSliceD (tdesc P t)=true)(h3:tok P (telem P t)=true)(h4:tok P t'=true)
  (h5:isSliceD (tdesc P t')=true) (hz:(tzero P (telem P t)).isSome=true) (Vk:((tzero P (telem P t)).getD []).length=tsize P (telem P t)) (XN:0<tbytes P (telem P t)) {ys:List C} {n':Nat} {cs:List C} (hx:ev σ.s x = .one (.vec b (tsize P (telem P t)) 0 n)) (YL:σ.H b=some cs)
  (hn:cs.length=n*tsize P (telem P t)) (hy:YC P σ y (tsize P (telem P t)) n' ys)
  (hb:(n+n')*tbytes P (telem P t)<=2^47) (Wn:b<PIN):zdj P o σ (.one (.vec b (tsize P (telem P t)) 0 (n+n'))) (σ.renew b (cs.map (jC b)++ys.map (jC b))):=by
 intro ρ ok a w h;obtain⟨z,hz⟩:=wba.1 hz;rw[hz]at Vk;simp only[waV]at Vk;obtain⟨zv,Uz,Kn⟩:=zc1 hz;have VG:zv.cells.size=tsize P (telem P t):=by
  have:=(zcb (w:=w) (ok:=ok) (ρ:=ρ) Kn).1;rw[<-Vk,this];simp
 have Y3:=Zj h x;rw[hx]at Y3;obtain⟨c,cap,n0,hρb,Kw,k2,k3,k4⟩:=Y3.vec_inv;obtain⟨Xu,hy⟩:=hy;obtain⟨A',c',vs,Uo,Vi,Up,V8⟩:=hy ρ ok a w h;rw[Uo]at Vi;obtain⟨cb,arr,el,e1,e2,e3,e4⟩:=h.heap b cs YL;rw[hρb]at e1;cases e1
 have Xl:n0=arr.size:=by
  obtain⟨el',hs⟩:=k3;simp[World.shape?,e2]at hs;exact hs.2.symm
 subst Xl;by_cases XV:n+n'<=cap
 ·
  have Vl:n*tsize P (telem P t)+n'*tsize P (telem P t)<=arr.size:=by
   have:(n+n')*tsize P (telem P t)<=cap*tsize P (telem P t):=wak _ XV;rw[war]at this;omega
  have YR:∀ v∈vs.toList,zcB v=true:=fun v hv=>by
   obtain⟨j,hj,rfl⟩:=waK.1 hv;have X1:j<vs.size:=by simpa using hj
   have:=(V8 j (by omega) X1).oneCell;simpa using this
  obtain⟨w',arr',r1,r2,r3,r4,r5,r6,r7⟩:=zh8 (P:=P) (c:=c) (off:=n*tsize P (telem P t)) vs.toList 0 w arr e2 YR (by simp;omega);have hk:zai ok w w':=fun m hm=>r3 m (fun e=>(h.okR m hm).2 b (e▸hρb))
  have hs:∀ m el k,w.shape? m=some (el,k)->w'.shape? m=some (el,k):=fun m el' k Vc=>by
   by_cases hm:m=c
   .subst hm;simp[World.shape?,e2]at Vc;simp[World.shape?,r4,r5,Vc]
   .simpa[World.shape?,r3 m hm]using Vc
  have Xw:=zny (P:=P) (w:=w) (w':=w') (t:=t) (t':=t') (ty:=o.type) (A':=A') (c0:=c) (off:=0) (n:=n) (c:=cap) (n':=n') (c':=c') h1 h2 h3 h4 h5 XV (Vi w rfl) (by rw[waY];exact r1);refine⟨.slice (some ⟨c,0,none⟩) (n+n') cap,w',ρ,ok,zef ho (by rw[Kw,Uo];exact Xw),.one (.vec hρb XV (hs _ _ _ (by simp[World.shape?,e2];rfl) |> fun h=>⟨_,h⟩) k4),⟨⟨fun b' cs' hb'=>?_,fun b' hb'=>?_,h.inj,fun m hm=>⟨by rw[r2];exact(h.okR m hm).1,(h.okR m hm).2⟩⟩,h.size,fun t'=>?_,h.defers,h.small⟩,⟨by omega,fun m hm hb'=>r3 m (fun e=>hb' b (e▸hρb)),hs,fun b' m hb'=>.inl ⟨b',hb'⟩,fun _ h=>h,fun _ h=>.inl h,fun _ _=>.inl rfl,r7⟩⟩
  .simp only[zbk]at hb'
   split at hb'
   .subst b';cases hb'
    refine⟨c,arr',el,hρb,r4,by simp only[Qj,Qm];omega,fun j hj Yz=>?_⟩;have e6:=r6 j;simp only[wap]at e6;by_cases hjn:j<cs.length
    .rw[wbt (by simpa using hjn)]
     rw[Qb (by omega),waW Yz,waW (by omega)]at e6;rw[wa0 e6];simp only[Qq];exact((e4 j hjn (by omega)).mono hk (fun _ h=>h) hs (fun _ _ h=>h)).junked (fun _ _ _ h=>h)
    .have DL:j<cs.length+ys.length:=by have:=hj;simp only[Qj,Qm]at this;exact this
     have V7:n*tsize P (telem P t)<=j/\j<n*tsize P (telem P t)+vs.toList.length:=⟨by omega,by rw[wcK];omega⟩
     rw[wbA (by simpa using hjn)];rw[Qc V7,waW Yz,waa (by rw[wcK];omega)]at e6;rw[wa0 e6];have hr:=(V8 (j-n*tsize P (telem P t)) (by omega) (by omega)).mono hk (fun _ h=>h) hs (fun _ _ h=>h);simp only[Qq,Qm,wbO,hn];simp only[waY,wap]at *
     exact hr.junked (fun _ _ _ h=>h)
   .rename_i hne
    simp only[wbq]at hb';obtain⟨cs0,V9,rfl⟩:=hb';obtain⟨c2,arr2,el2,f1,f2,f3,f4⟩:=h.heap b' cs0 V9;have WA:c2≠c:=fun e=>hne (h.inj b' b c2 f1 (e▸hρb))
    exact⟨c2,arr2,el2,f1,by rw[r3 c2 WA];exact f2,by simpa using f3,fun j hj Yz=>by
     simp only[Qq];exact((f4 j (by simpa using hj) Yz).mono hk (fun _ h=>h) hs (fun _ _ h=>h)).junked (fun _ _ _ h=>h)⟩
  .simp only[zbk]at hb'
   split at hb'
   .cases hb'
   .simp only[wct]at hb';exact h.dom b' hb'
  .simp only[zgf]
   exact(h.lift hk (fun _ h=>h) hs (fun _ _ h=>h) t').junked (fun _ _ _ h=>h)
 ·
  have Un:∀ w',w'.heap=w.heap->(Builtin.firstCells (tsize P (telem P t)) n (.slice (some ⟨c,0,none⟩) n cap)).run P w' = .ok ((List.range (n*tsize P (telem P t))).map fun j=>(arr[j]?).getD undef).toArray w':=by
   intro w' UJ;unfold Builtin.firstCells;simp only[];refine zeQ _ fun j hj=>?_
   have:j<arr.size:=by omega
   rw[zg2 UJ];simp[World.cell?,e2,this]
  obtain⟨k,rest,hk,Xt,Xc⟩:=zil (P:=P) (w:=w) (w₀:=w) (ty:=o.type) (A:=some ⟨c,0,none⟩) (A':=A') (n:=n) (c:=cap) (n':=n') (c':=c') h1 h2 h3 h4 h5 (by omega) hb XN Uz Un Vi rfl;generalize UR:((List.range (n*tsize P (telem P t))).map fun j=>(arr[j]?).getD undef).toArray++vs++rest=ARR at Xc;have XX:((List.range (n*tsize P (telem P t))).map fun j=>(arr[j]?).getD undef).toArray.size=n*tsize P (telem P t):=by simp
  have Vm:ARR.size=k*tsize P (telem P t):=by
   rw[<-UR];simp only[wbW,XX];rw[Xt,Up,Xu,VG,<-war,<-war];congr 1;omega
  have YA:∀ m,ok m->m<w.heap.size:=fun m hm=>(h.okR m hm).1
  have hρ:∀ b' m,b'≠b->ρ b'=some m->ext ρ b (some w.heap.size) b'=some m:=fun b' m hne hm=>by simp[ext,hne,hm]
  have VR:=zdB (w:=w) (o:=.cells ARR (telem P t)) YA;have YF:∀ m,m<w.heap.size->(w.heap.push (.cells ARR (telem P t)))[m]? = w.heap[m]?:=fun m hm=>by simp[wb9,wca hm]
  have WB:∀ m el k,w.shape? m=some (el,k)->({ w with heap:=w.heap.push (.cells ARR (telem P t)) }:World).shape? m=some (el,k):=zc3;refine⟨.slice (some ⟨w.heap.size,0,none⟩) (n+n') k,_,ext ρ b (some w.heap.size),ok,zef ho (by rw[Kw,Uo];exact Xc),.one (.vec (c:=w.heap.size) (n:=ARR.size) (by simp[ext]) hk ⟨telem P t,by simp[World.shape?]⟩ (by rw[Vm];omega)),?_,?_⟩
  .have main:SR (ext ρ b (some w.heap.size)) ok (σ.renew b (cs.map (jC b)++ys.map (jC b))) a { w with heap:=w.heap.push (.cells ARR (telem P t)) }:=by
    refine⟨⟨fun b' cs' hb'=>?_,fun b' hb'=>?_,fun b1 b2 m h1 h2=>?_,fun m hm=>⟨by have:=YA m hm;simp;omega,fun b' hb'=>?_⟩⟩,h.size,fun t'=>?_,h.defers,h.small⟩
    .simp only[zbk]at hb'
     split at hb'
     .subst b';cases hb'
      refine⟨w.heap.size,ARR,telem P t,by simp[ext],by simp,by rw[Vm];simp only[Qj,Qm,hn,Xu,<-war];exact wak _ hk,fun j hj Yz=>?_⟩;subst UR;by_cases hjn:j<cs.length
      .rw[wbt (by simpa using hjn)]
       rw[wbF (by simp;omega),wbF (by simp;omega)];simp only[Qq,wcf,wc1];have Yw:j<arr.size:=by omega
       have:=e4 j hjn Yw;rw[show(arr[j]?).getD undef=arr[j] by simp[Yw]];exact(this.mono (ρ':=ρ) VR (fun _ h=>h) WB (fun _ _ h=>h)).junked hρ
      .have DL:j<cs.length+ys.length:=by have:=hj;simp only[Qj,Qm]at this;exact this
       rw[wbA (by simpa using hjn)];rw[wbF (by rw[wbW,XX];omega),wdC (by rw[XX];omega)];have hr:=(V8 (j-n*tsize P (telem P t)) (by omega) (by omega)).mono (ρ':=ρ) VR (fun _ h=>h) WB (fun _ _ h=>h);simp only[Qq,Qm,XX,hn];exact hr.junked hρ
     .rename_i hne
      simp only[wbq]at hb';obtain⟨cs0,V9,rfl⟩:=hb';obtain⟨c2,arr2,el2,f1,f2,f3,f4⟩:=h.heap b' cs0 V9;refine⟨c2,arr2,el2,hρ _ _ hne f1,by rw[YF c2 (Yb h.toHR f1)];exact f2,by simpa using f3,fun j hj Yz=>?_⟩;simp only[Qq];exact((f4 j (by simpa using hj) Yz).mono (ρ':=ρ) VR (fun _ h=>h) WB (fun _ _ h=>h)).junked hρ
    .simp only[zbk]at hb'
     split at hb'
     .cases hb'
     .rename_i hne;simp only[wct]at hb';simp[ext,hne,h.dom b' hb']
    .simp only[ext]at h1 h2
     split at h1<;>split at h2
     .subst b1;subst b2;rfl
     .cases h1;have:=Yb h.toHR h2;omega
     .cases h2;have:=Yb h.toHR h1;omega
     .exact h.inj b1 b2 m h1 h2
    .simp only[ext]at hb'
     split at hb'
     .cases hb';have:=YA _ hm;omega
     .exact(h.okR m hm).2 b' hb'
    .simp only[zgf]
     exact(h.lift (ρ':=ρ) VR (fun _ h=>h) WB (fun _ _ h=>h) t').junked hρ
   exact main.drawn.1
  .refine⟨by simp,fun m hm _=>YF m hm,WB,fun b' m hb'=>?_,fun _ h=>h,fun _ h=>.inl h,fun b' hb'=>.inl (by unfold ext;rw[Qb (by omega)]),⟨rfl,rfl⟩⟩
   simp only[ext]at hb';split at hb'
   .cases hb';exact .inr (Qd _)
   .exact .inl ⟨b',hb'⟩
end
def zae{α:Type}(b:Nat)(f:α->List T)(rows:Nat->List α)(n:Nat):List (Nat×List C):=(List.range n).map fun i=>(b+i,Q5 f (rows i))
def zco(b n:Nat):List Nat:=(List.range n).map (b+·)
def rowsC(b sz len n:Nat):List C:=(List.range n).map fun i=>.vec (b+i) sz 0 len
theorem znb{α:Type}{b:Nat}{f:α->List T}{rows:Nat->List α}{h:List (Nat×List C)}{t:Nat}:∀ (l:List Nat),QB (l.map (fun i=>(b+i,Q5 f (rows i)))++h) t=if b<=t/\t-b∈l then some (Q5 f (rows (t-b)))else QB h t
 |[]=>by simp
 |i::l=>by
  show(if t=b+i then some (Q5 f (rows i))else QB (l.map (fun i=>(b+i,Q5 f (rows i)))++h) t)=_;rw[znb l];by_cases e:t=b+i
  .subst e
   have e2:b+i-b=i:=by omega
   rw[Qc rfl,e2,Qc ⟨by omega,by simp⟩]
  .rw[Qb e]
   by_cases c:b<=t/\t-b∈l
   .rw[Qc c,Qc ⟨c.1,by simp[c.2]⟩]
   .rw[Qb c,Qb (fun c2=>by
     rcases wab.1 c2.2 with h|h
     .omega
     .exact c ⟨c2.1,h⟩)]
@[go_sem] theorem zcE{α:Type}{b n:Nat}{f:α->List T}{rows:Nat->List α}{h:List (Nat×List C)}{t:Nat}:QB (zae b f rows n++h) t=if b<=t/\t<b+n then some (Q5 f (rows (t-b)))else QB h t:=by
 unfold zae;rw[znb];by_cases c:b<=t/\t<b+n
 .rw[Qc c,Qc ⟨c.1,by rw[waJ];omega⟩]
 .rw[Qb c,Qb (fun c2=>c ⟨c2.1,by have:=waJ.1 c2.2;omega⟩)]
theorem znB{α:Type}{b:Nat}{f:α->List T}{rows:Nat->List α}{h:List (Nat×List C)}{σ:St}:∀ (l:List Nat),ZA σ (l.map (fun i=>(b+i,Q5 f (rows i)))++h)=((∀ i∈l,σ.H (b+i)=some (Q5 f (rows i)))/\ZA σ h)
 |[]=>by simp
 |i::l=>by
  show(σ.H (b+i)=some (Q5 f (rows i))/\ZA σ (l.map (fun i=>(b+i,Q5 f (rows i)))++h))=_;rw[znB l];simp[and_assoc]
@[go_sem] theorem zoF{α:Type}{b n:Nat}{f:α->List T}{rows:Nat->List α}{h:List (Nat×List C)}{σ:St}:ZA σ (zae b f rows n++h)=((∀ i,i<n->σ.H (b+i)=some (Q5 f (rows i)))/\ZA σ h):=by
 unfold zae;rw[znB];simp
@[go_sem] theorem zk0{α:Type}{b n:Nat}{f:α->List T}{rows:Nat->List α}:(zae b f rows n).map (fun p=>p.1)=zco b n:=by unfold zae zco;rw[wac];rfl
theorem zgQ{D:List Nat}:∀ (l h:List (Nat×List C)),QT D (l++h)=(QT D l&&QT D h)
 |[],h=>by simp[QT]
 |(k,v)::l,h=>by show(v.all (Z9 D)&&QT D (l++h))=((v.all (Z9 D)&&QT D l)&&QT D h);rw[zgQ l h,wdK]
@[go_sem] theorem zkA{α:Type}{b n:Nat}{f:α->List T}{rows:Nat->List α}{h:List (Nat×List C)}{D:List Nat}:QT D (zae b f rows n++h)=QT D h:=by
 rw[zgQ];have:QT D (zae b f rows n)=true:=by
  unfold zae;generalize List.range n=l
  induction l with
  |nil=>rfl
  |cons i l ih=>show((Q5 f (rows i)).all (Z9 D)&&QT D (l.map fun i=>(b+i,Q5 f (rows i))))=true;rw[ih,QH];rfl
 rw[this,wbo]
@[go_sem] theorem zmB{b n t:Nat}{D:List Nat}:(zco b n++D).contains t=((decide (b<=t)&&decide (t<b+n))||D.contains t):=by
 have h:(zco b n).contains t=(decide (b<=t)&&decide (t<b+n)):=by
  rw[waU,waE,wag,way,way];unfold zco;rw[Qp];constructor
  .rintro⟨i,hi,rfl⟩;have:=waJ.1 hi;omega
  .intro h;exact⟨t-b,waJ.2 (by omega),by omega⟩
 rw[waU,wbE,<-h,waE,waE,waE,wan]
@[go_sem] theorem zke{b sz len n:Nat}{D:List Nat}:(rowsC b sz len n).all (Z9 (zco b n++D))=true:=by
 unfold rowsC;rw[wai];intro c hc;obtain⟨i,hi,rfl⟩:=Qp.1 hc;show(zco b n++D).contains (b+i)=true;rw[zmB];have:=waJ.1 hi;simp;left;omega
theorem zmS{b sz len n:Nat}{D:List Nat}(h:∀ i,i<n->b+i∈D):(rowsC b sz len n).all (Z9 D)=true:=by
 unfold rowsC;rw[wai];intro c hc;obtain⟨i,hi,rfl⟩:=Qp.1 hc;show D.contains (b+i)=true;rw[waE];exact h i (waJ.1 hi)
theorem zbj{b sz len n:Nat}:(rowsC b sz len n).length=n:=by unfold rowsC;simp
theorem zcw{b sz len n i:Nat}(h:i<n):(rowsC b sz len n).drop i = .vec (b+i) sz 0 len::(rowsC b sz len n).drop (i+1):=by
 rw[waw (by rw[zbj];exact h)];congr 1;have h':i<((List.range n).map fun i=>C.vec (b+i) sz 0 len).length:=by simpa using h
 show((List.range n).map fun i=>C.vec (b+i) sz 0 len)[i]'(h')=_;simp
theorem zkf{b sz len n:Nat}:rowsC b sz len n++[.vec (b+n) sz 0 len]=rowsC b sz len (n+1):=by
 unfold rowsC;rw[wc8,waG];rfl
theorem zk1{b sz len n:Nat}{θ:Nat->Nat}(h:∀ i,i<n->thI θ (b+i)=thI θ b+i):(rowsC b sz len n).map (thC θ)=rowsC (thI θ b) sz len n:=by
 unfold rowsC;rw[wac];exact wau fun i hi=>by show C.vec (thI θ (b+i)) sz 0 len=_;rw[h i (waJ.1 hi)]
theorem zeC{P:Program}{f:FuncId}{args:List AV}{X H:QD}{r:AV}(θ:Nat->Nat)(h:Zf P f args X r X)
  (Vu:∀ b,b<PIN->X b=none)
  (Y8:∀ b b',X b≠none->X b'≠none->thI θ b=thI θ b'->b=b')
  (YW:∀ b cs,X b=some cs->∀ c∈cs,inC X c) (YB:∀ x∈args,inA X x)
  (hH:∀ b cs,X b=some cs->H (thI θ b)=some (cs.map (thC θ))):RdC P f (args.map (thA θ)) H (thA θ r) :=
 fun H' Wh=>h.ren θ Vu (fun _=>wbn) Y8 YW YB (fun b cs hb=>Wh _ _ (hH b cs hb)) (fun b cs hb=>Wh _ _ (hH b cs hb)) fun _ _=>rfl
theorem zhk{P:Program}{f:FuncId}{as:List AV}{r:AV}{σ:St}{K:AV->St->Prop}(h:RdC P f as σ.H r)(hK:K r σ):ZK P 3 f as σ K:=.inr (.inr (.inr ⟨rfl,r,h,hK⟩))
end Go.Abs
namespace Go.Abs
def rnC(φ:Nat->Nat):C->C
 |.t x=>.t x
 |.ptr b o=>.ptr (φ b) o
 |.vec b s o n=>.vec (φ b) s o n
 |.fn f caps=>.fn f (caps.map fun p=>(φ p.1,p.2))
def rnA(φ:Nat->Nat):AV->AV
 |.one c=>.one (rnC φ c)
 |.agg cs=>.agg (cs.map (rnC φ))
 |.iptr cs=>.iptr cs
 |.tup xs=>.tup (rnAs xs)
 |.junk=>.junk
where rnAs:List AV->List AV
 |[]=>[]
 |x::l=>rnA φ x::rnAs l
theorem zkN{φ:Nat->Nat}:∀ xs:List AV,rnA.rnAs φ xs=xs.map (rnA φ)
 |[]=>rfl
 |x::l=>by show rnA φ x::rnA.rnAs φ l=_;rw[zkN l];rfl
section
variable {w:World} {ok:Nat->Prop} {ρ ρ':Nat->Option Nat} {φ:Nat->Nat} {X:QD}
theorem RC.rn(hρ:∀ b c,ρ b=some c->ρ' (φ b)=some c){x:C}{v:Value}(h:RC w ok ρ x v):RC w ok ρ' (rnC φ x) v:=by
 cases h with
 |t h=>exact .t h
 |ptr h=>exact .ptr (hρ _ _ h)
 |vec h h1 h2 h3=>exact .vec (hρ _ _ h) h1 h2 h3
 |fn h h1 =>
  refine .fn (by simpa using h) fun i Vb XS=>?_
  simp only[Qm]at Vb;obtain⟨c,h2,h3⟩:=h1 i Vb XS;simp only[Qq];exact⟨c,hρ _ _ h2,h3⟩
theorem RC.rnX(hρ:∀ b c,X b≠none->ρ b=some c->ρ' (φ b)=some c){x:C}{v:Value}(hi:inC X x)(h:RC w ok ρ x v):RC w ok ρ' (rnC φ x) v:=by
 cases h with
 |t h=>exact .t h
 |ptr h=>exact .ptr (hρ _ _ hi h)
 |vec h h1 h2 h3=>exact .vec (hρ _ _ hi h) h1 h2 h3
 |fn h h1 =>
  refine .fn (by simpa using h) fun i Vb XS=>?_
  simp only[Qm]at Vb;obtain⟨c,h2,h3⟩:=h1 i Vb XS;simp only[Qq];exact⟨c,hρ _ _ (hi _ (Qh Vb)) h2,h3⟩
theorem RA.rn'(hρ:∀ b c,ρ b=some c->ρ' (φ b)=some c):∀ (x:AV) (v:Value),RA w ok ρ x v->RA w ok ρ' (rnA φ x) v
 |.one c,v,h=>by
  cases h with|one h=>exact .one (h.rn hρ)
 |.agg cs,v,h=>by
  cases h with
  |agg h h1 =>
   refine .agg (by simpa using h) fun j hj Yz=>?_
   simp only[Qm]at hj;simp only[Qq];exact(h1 j hj Yz).rn hρ
 |.iptr cs,v,h=>by
  cases h with|iptr h1 h2 h3=>exact .iptr h1 h2 h3
 |.tup xs,v,h=>by
  have e:rnA φ (.tup xs) = .tup (xs.map (rnA φ)):=by show AV.tup _=_;rw[zkN]
  rw[e];cases h with
  |tup h h1 =>
   refine .tup (by rw[Qm];exact h) fun j hj Yz=>?_
   simp only[Qm]at hj;simp only[Qq];have:SizeOf.sizeOf xs[j]<1+SizeOf.sizeOf xs:=by have:=wcT (Qh hj);omega
   exact RA.rn' hρ _ _ (h1 j hj Yz)
 |.junk,v,h=>by
  exact .junk
termination_by x=>SizeOf.sizeOf x
theorem RA.rn(hρ:∀ b c,ρ b=some c->ρ' (φ b)=some c){x:AV}{v:Value}(h:RA w ok ρ x v):RA w ok ρ' (rnA φ x) v:=RA.rn' hρ x v h
theorem RA.rnX'(hρ:∀ b c,X b≠none->ρ b=some c->ρ' (φ b)=some c):∀ (x:AV) (v:Value),inA X x->RA w ok ρ x v->RA w ok ρ' (rnA φ x) v
 |.one c,v,hi,h=>by
  cases h with|one h=>exact .one (h.rnX hρ hi)
 |.agg cs,v,hi,h=>by
  cases h with
  |agg h h1 =>
   refine .agg (by simpa using h) fun j hj Yz=>?_
   simp only[Qm]at hj;simp only[Qq];exact(h1 j hj Yz).rnX hρ (hi _ (Qh hj))
 |.iptr cs,v,hi,h=>by
  cases h with|iptr h1 h2 h3=>exact .iptr h1 h2 h3
 |.tup xs,v,hi,h=>by
  have e:rnA φ (.tup xs) = .tup (xs.map (rnA φ)):=by show AV.tup _=_;rw[zkN]
  rw[e];cases h with
  |tup h h1 =>
   refine .tup (by rw[Qm];exact h) fun j hj Yz=>?_
   simp only[Qm]at hj;simp only[Qq];have:SizeOf.sizeOf xs[j]<1+SizeOf.sizeOf xs:=by have:=wcT (Qh hj);omega
   exact RA.rnX' hρ _ _ (zk9 hi _ (Qh hj)) (h1 j hj Yz)
 |.junk,v,hi,h=>by
  exact .junk
termination_by x=>SizeOf.sizeOf x
theorem RA.rnX(hρ:∀ b c,X b≠none->ρ b=some c->ρ' (φ b)=some c){x:AV}{v:Value}(hi:inA X x)(h:RA w ok ρ x v):RA w ok ρ' (rnA φ x) v:=RA.rnX' hρ x v hi h
end
open Classical in
noncomputable def zax(H:QD)(φ:Nat->Nat)(ρ ρ0:Nat->Option Nat):Nat->Option Nat:=fun x=>if h:∃ b,H b≠none/\φ b=x then ρ (Classical.choose h)else ρ0 x
theorem zhf{H:QD}{φ:Nat->Nat}{ρ ρ0:Nat->Option Nat}(Y8:∀ b b',H b≠none->H b'≠none->φ b=φ b'->b=b'){b:Nat}(hb:H b≠none):zax H φ ρ ρ0 (φ b)=ρ b:=by
 have h:∃ b',H b'≠none/\φ b'=φ b:=⟨b,hb,rfl⟩
 unfold zax;rw[dif_pos h];have h2:=Classical.choose_spec h;rw[Y8 _ _ h2.1 hb h2.2]
theorem zfa{H:QD}{φ:Nat->Nat}{ρ ρ0:Nat->Option Nat}{x:Nat}(h:∀ b,H b≠none->φ b≠x):zax H φ ρ ρ0 x=ρ0 x:=by
 unfold zax;rw[dif_neg (fun⟨b,h1,h2⟩=>h b h1 h2)]
theorem zaa{H:QD}{φ:Nat->Nat}{ρ ρ0:Nat->Option Nat}{x n:Nat}(Y8:∀ b b',H b≠none->H b'≠none->φ b=φ b'->b=b')(h:zax H φ ρ ρ0 x=some n):(∃ b,H b≠none/\φ b=x/\ρ b=some n)\/((∀ b,H b≠none->φ b≠x)/\ρ0 x=some n):=by
 by_cases hx:∃ b,H b≠none/\φ b=x
 .obtain⟨b,hb,rfl⟩:=hx
  rw[zhf Y8 hb]at h;exact .inl ⟨b,hb,rfl,h⟩
 .have Ud:∀ b,H b≠none->φ b≠x:=fun b h1 h2=>hx ⟨b,h1,h2⟩
  rw[zfa Ud]at h;exact .inr ⟨Ud,h⟩
theorem zts{σ σ':St}(φ:Nat->Nat)(hn:σ'.n=σ.n)(Y8:∀ b b',σ.H b≠none->σ.H b'≠none->φ b=φ b'->b=b')(Vh:∀ b,PIN<=φ b->φ b=b)
  (hH:∀ b cs,σ.H b=some cs->σ'.H (φ b)=some (cs.map (rnC φ))) (XF:∀ x,(∀ b,σ.H b≠none->φ b≠x)->σ'.H x=none) (hs:∀ t,σ'.s t=rnA φ (σ.s t)):GStep σ σ':=by
 intro ρ ok a w s;have XZ:∀ b c,ρ b=some c->zax σ.H φ ρ noρ (φ b)=some c:=fun b c hb=>by
  have h1:σ.H b≠none:=fun e=>by rw[s.dom b e]at hb;cases hb
  rw[zhf Y8 h1];exact hb
 refine⟨zax σ.H φ ρ noρ,ok,⟨⟨fun x cs hx=>?_,fun x hx=>?_,fun x y c hx hy=>?_,fun n hn=>⟨(s.okR n hn).1,fun x hx=>?_⟩⟩,by rw[s.size,hn],fun t=>?_,s.defers,by rw[hn];exact s.small⟩,
  ⟨Qd _,fun _ _ _=>rfl,fun _ _ _ h=>h,fun x n hx=>?_,fun _ h=>h,fun _ h=>.inl h,fun x hx=>?_,⟨rfl,rfl⟩⟩⟩
 .by_cases he:∃ b,σ.H b≠none/\φ b=x
  .obtain⟨b,hb,rfl⟩:=he
   obtain⟨cs0,Xa⟩:=wby.1 hb;rw[hH b cs0 Xa]at hx;cases hx
   obtain⟨c,arr,el,h1,h2,h3,h4⟩:=s.heap b cs0 Xa;refine⟨c,arr,el,XZ b c h1,h2,by simpa using h3,fun j hj Yz=>?_⟩;simp only[Qm]at hj;simp only[Qq];exact(h4 j hj Yz).rn XZ
  .rw[XF x (fun b h1 h2=>he ⟨b,h1,h2⟩)]at hx;cases hx
 .rcases hw:zax σ.H φ ρ noρ x with _|n
  .rfl
  .rcases zaa Y8 hw with⟨b,hb,rfl,_⟩|⟨_,h⟩
   .obtain⟨cs0,Xa⟩:=wby.1 hb
    rw[hH b cs0 Xa]at hx;cases hx
   .cases h
 .rcases zaa Y8 hx with⟨b,hb,rfl,h1⟩|⟨_,h⟩
  .rcases zaa Y8 hy with⟨b',hb',rfl,h2⟩|⟨_,h⟩
   .rw[s.inj b b' c h1 h2]
   .cases h
  .cases h
 .rcases zaa Y8 hx with⟨b,_,_,h1⟩|⟨_,h⟩
  .exact(s.okR n hn).2 b h1
  .cases h
 .rw[hs];exact(s.slots t).rn XZ
 .rcases zaa Y8 hx with⟨b,_,_,h1⟩|⟨_,h⟩
  .exact .inl ⟨b,h1⟩
  .cases h
 .rcases hw:zax σ.H φ ρ noρ x with _|n
  .exact .inr rfl
  .rcases zaa Y8 hw with⟨b,hb,e,h1⟩|⟨_,h⟩
   .have:φ b=b:=Vh b (by omega)
    have:b=x:=by omega
    subst this;exact .inl h1.symm
   .cases h
variable {P:Program}
def zbX(P:Program)(f:FuncId)(args:List TV)(X:QD)(r:AV):Prop :=
 ∀ (H H':QD) (φ:Nat->Nat),(∀ b,X b≠none->H (φ b)=none/\φ b<PIN)->(∀ b b',X b≠none->X b'≠none->φ b=φ b'->b=b') ->
  (∀ b cs,X b=some cs->H' (φ b)=some (cs.map (rnC φ)))->(∀ x,(∀ b,X b≠none->φ b≠x)->H' x=H x)->Zf P f (args.map emb) H (rnA φ r) H'
def zhL(P:Program)(rs:List ResultVar)(X:QD)(r:AV)(e:Exit)(σ:St):Prop :=
 (e = .normal\/e = .ret)/\(∀ x∈rs,zal P σ x)/\zb7 P rs σ=r/\∀ b cs,X b=some cs->σ.H b=some cs
theorem zcp(hm:P.follows .mixedOrders=true){f:FuncId}{fn:Func}{c:Code}{k:Nat}{rs:List ResultVar}{args:List TV}{X:QD}{r:AV}(Xb:∀ (as:Array Value) w,(callFunc f as).run P w = .ok (.enter f as) w)(hf:P.funcs[f]? = some fn)
  (hb:fn.body=some c) (hn:fn.ntmps=k) (UK:fn.results=rs.toArray) (hl:args.length<=k) (Vt:k<=PIN) (YW:∀ b cs,X b=some cs->∀ c∈cs,inC X c) (hr:inA X r)
  (h:wpA P c (zhL P rs X r) (zbb k (args.map emb) noH)):zbX P f args X r:=by
 subst hn;have e:fn.results.toList=rs:=by rw[UK]
 subst e;intro H H' φ Xq Y8 X5 XF;refine⟨Xb,fun ρ ok w vs hH hv=>?_⟩;have Va:zaH w ok noρ (args.map emb) vs:=by
  refine⟨hv.1,fun i hi Y6=>?_⟩;have:=hv.2 i hi Y6;simp only[Qq]at this ⊢;exact zew this _ rfl
 refine calls_of_wp hf hb (Code.wp_mono ?_ (zdD hm c _ _ noρ ok _ w (zdP ⟨fun b cs hb=>(by cases hb),fun _ _=>rfl,fun _ _ _ h=>(by cases h),fun n hn=>⟨(hH.okR n hn).1,fun _ h=>(by cases h)⟩⟩ Va (by rw[Va.1];simpa using hl) Vt) h));rintro e' a w' ⟨σ,ρ1,ok1,⟨he,YX,Ve,hX⟩,s,g⟩;obtain⟨v,r1,r2⟩:=zdv s YX;rw[Ve]at r2;have XM:∀ b c,ρ1 b=some c->w.heap.size<=c:=fun b c hb=>by
  rcases g.img b c hb with⟨b',h1⟩|h1
  .cases h1
  .exact h1
 have Y4:∀ n,n<w.heap.size->w'.heap[n]? = w.heap[n]?:=fun n hn=>g.same n hn (fun b e=>by cases e)
 have himgρ:∀ x n,ρ x=some n->n<w.heap.size:=fun x n hx=>Yb (σ:=⟨0,fun _=>.junk,H⟩) hH hx
 have hk:zai ok w w':=fun n hn=>Y4 n (hH.okR n hn).1
 have XZ:∀ b c,X b≠none->ρ1 b=some c->zax X φ ρ1 ρ (φ b)=some c:=fun b c hb hc=>by rw[zhf Y8 hb];exact hc
 have Xk:∀ x y,ρ x=some y->zax X φ ρ1 ρ x=some y:=fun x y hx=>by
  rw[zfa (fun b hb e=>?_)]
  .exact hx
  .have:=hH.dom _ (Xq b hb).1
   rw[e,hx]at this;cases this
 have main:∃ v' ρ'' ok'',Ending.returned v = .returned v'/\RA w' ok'' ρ'' (rnA φ r) v'/\HR ρ'' ok'' H' w'/\Goes ρ ok w ρ'' ok'' w'/\∀ b c,ρ b=some c->ρ'' b=some c:=by
  refine⟨v,zax X φ ρ1 ρ,ok1,rfl,r2.rnX XZ hr,⟨fun x cs hx=>?_,fun x hx=>?_,fun x y n hx hy=>?_,fun n hn=>⟨(s.okR n hn).1,fun x hx=>?_⟩⟩,⟨g.size,fun n hn _=>Y4 n hn,g.shape,fun x n hx=>?_,g.up,fun n hn=>?_,fun x hx=>?_,g.env⟩,Xk⟩
  .by_cases Ud:∃ b,X b≠none/\φ b=x
   .obtain⟨b,hb,rfl⟩:=Ud
    obtain⟨cs0,Xa⟩:=wby.1 hb;rw[X5 b cs0 Xa]at hx;cases hx
    obtain⟨c,arr,el,h1,h2,h3,h4⟩:=s.heap b cs0 (hX b cs0 Xa);refine⟨c,arr,el,XZ b c hb h1,h2,by simpa using h3,fun j hj Yz=>?_⟩;simp only[Qm]at hj;simp only[Qq];exact(h4 j hj Yz).rnX XZ (YW b cs0 Xa _ (Qh hj))
   .rw[XF x fun b h1 h2=>Ud ⟨b,h1,h2⟩]at hx
    obtain⟨cx,ax,ex,q1,q2,q3,q4⟩:=hH.heap x cs hx;exact⟨cx,ax,ex,Xk _ _ q1,by rw[Y4 cx (himgρ _ _ q1)];exact q2,q3,fun j hj Yz=>(q4 j hj Yz).mono hk g.up g.shape Xk⟩
  .rcases hw:zax X φ ρ1 ρ x with _|n
   .rfl
   .rcases zaa Y8 hw with⟨b,hb,rfl,_⟩|⟨h1,h2⟩
    .obtain⟨cs0,Xa⟩:=wby.1 hb
     rw[X5 b cs0 Xa]at hx;cases hx
    .rw[XF x h1]at hx
     rw[hH.dom x hx]at h2;cases h2
  .rcases zaa Y8 hx with⟨b,hb,rfl,h1⟩|⟨_,h1⟩
   .rcases zaa Y8 hy with⟨b',hb',rfl,h2⟩|⟨_,h2⟩
    .rw[s.inj b b' n h1 h2]
    .have:=XM _ _ h1;have:=himgρ _ _ h2;omega
   .rcases zaa Y8 hy with⟨b',hb',rfl,h2⟩|⟨_,h2⟩
    .have:=XM _ _ h2;have:=himgρ _ _ h1;omega
    .exact hH.inj x y n h1 h2
  .rcases zaa Y8 hx with⟨b,hb,rfl,h1⟩|⟨_,h1⟩
   .exact(s.okR n hn).2 b h1
   .rcases g.down n hn with k|⟨b',k⟩|k
    .exact(hH.okR n k).2 x h1
    .cases k
    .have:=himgρ _ _ h1;omega
  .rcases zaa Y8 hx with⟨b,hb,rfl,h1⟩|⟨_,h1⟩
   .exact .inr (XM _ _ h1)
   .exact .inl ⟨x,h1⟩
  .rcases g.down n hn with k|⟨b',k⟩|k
   .exact .inl k
   .cases k
   .exact .inr (.inr k)
  .left
   exact zfa fun b hb e=>by have:=(Xq b hb).2;omega
 have XU:a.defers=[]/\∃ v,(results fn a.tmps).run P w' = .ok v w'/\∃ v' ρ'' ok'',Ending.returned v = .returned v'/\RA w' ok'' ρ'' (rnA φ r) v'/\HR ρ'' ok'' H' w'/\Goes ρ ok w ρ'' ok'' w'/\∀ b c,ρ b=some c->ρ'' b=some c :=
  ⟨s.defers,v,r1,main⟩
 rcases he with rfl|rfl<;>exact XU
theorem zfb{m:Nat}{f:FuncId}{as:List AV}{tvs:List TV}{X H':QD}{r:AV}{σ:St}{K:AV->St->Prop}(φ:Nat->Nat)(hm:m=1\/m=2)(h:zbX P f tvs X r)(YY:as=tvs.map emb)(Xq:∀ b,X b≠none->σ.H (φ b)=none/\φ b<PIN)
  (Y8:∀ b b',X b≠none->X b'≠none->φ b=φ b'->b=b') (X5:∀ b cs,X b=some cs->H' (φ b)=some (cs.map (rnC φ))) (XF:∀ x,(∀ b,X b≠none->φ b≠x)->H' x=σ.H x) (hK:K (rnA φ r) (σ.withH H')):ZK P m f as σ K :=
 YY▸.inr (.inl ⟨hm,_,_,h σ.H H' φ Xq Y8 X5 XF,hK⟩)
theorem zbL{m:Nat}{f:FuncId}{as:List AV}{r:AV}{σ:St}{K:AV->St->Prop}(hm:m=1\/m=2)(h:RdC P f as σ.H r)(hK:K r σ):ZK P m f as σ K :=
 .inr (.inl ⟨hm,_,_,h σ.H (fun _ _ h=>h),hK⟩)
section
variable {α:Type} {b sz n t:Nat} {f:α->List T} {xs:List α} {rows:Nat->List α} {D:List Nat} {σ:St}
@[go_sem] theorem zAR:QB (Zb b f xs) t=if t=b then ZM f xs none else none:=by
 have:=ziH (b:=b) (f:=f) (xs:=xs) (l:=[]) (t:=t);rwa[wal]at this
@[go_sem] theorem zBM:ZA σ (Zb b f xs)=(xs=[]\/σ.H b=some (Q5 f xs)):=by
 have:=ziZ (b:=b) (f:=f) (xs:=xs) (l:=[]) (σ:=σ);rw[wal]at this;rw[this];simp[ZA]
@[go_sem] theorem zAS:QT D (Zb b f xs)=true:=by
 have:=ziI (b:=b) (f:=f) (xs:=xs) (l:=[]) (D:=D);rw[wal]at this;rw[this];rfl
@[go_sem] theorem zzH:(zgL b xs).contains t=(t==b&&!xs.isEmpty):=by
 have:=zr9 (b:=b) (xs:=xs) (D:=[]) (t:=t);rw[wal]at this;rw[this];simp
end
end Go.Abs
