/- At every input the call answers true and leaves its arguments as they were; no conditions. -/
import Derived.Test.YtlgjjcmljmjenaaGreatAd
import Derived.ProofKit
set_option linter.unusedSimpArgs false
set_option linter.unusedVariables false
set_option maxRecDepth 100000
namespace Go.Abs
def QX{α:Type}(b sz:Nat)(xs:List α):C:=match xs with|[]=>.t (.seq (some true) [])|_::_=>.vec b sz 0 xs.length
def ZM{α:Type}(f:α->List T)(xs:List α)(o:Option (List C)):Option (List C):=match xs with|[]=>o|_::_=>some (Q5 f xs)
def Zb{α:Type}(b:Nat)(f:α->List T)(xs:List α):List (Nat×List C):=match xs with|[]=>[]|_::_=>[(b,Q5 f xs)]
def zgL{α:Type}(b:Nat)(xs:List α):List Nat:=match xs with|[]=>[]|_::_=>[b]
def zmv{α:Type}(xs:List α):C:=match xs with|[]=>.t (.seq (some true) [])|_::_=>.t .junk
abbrev zaf{α:Type}(b sz:Nat)(xs:List α):AV:=.one (QX b sz xs)
section
variable {α:Type} {b sz:Nat} {f:α->List T} {xs:List α}
@[go_sem] theorem zDm:QX b sz ([]:List α) = .t (.seq (some true) []):=rfl
@[go_sem] theorem zDn:Zb b f []=[]:=rfl
@[go_sem] theorem zDo{o:Option (List C)}:ZM f [] o=o:=rfl
theorem zkC{x:α}:QX b sz (x::xs) = .vec b sz 0 (xs.length+1):=rfl
theorem ziG{x:α}:Zb b f (x::xs)=[(b,Q5 f (x::xs))]:=rfl
@[go_sem] theorem zDp:zgL b ([]:List α)=[]:=rfl
@[go_sem] theorem zA3{x:α}:QM f (x::xs) 0=f x:=rfl
theorem QA{x:α}:((x::xs).take (xs.length+1)).drop 1=xs:=by simp
@[go_sem] theorem ziH{l:List (Nat×List C)}{t:Nat}:QB (Zb b f xs++l) t=if t=b then ZM f xs (QB l t)else QB l t:=by
 cases xs with
 |nil=>simp[Zb,ZM]
 |cons x xs=>rfl
@[go_sem] theorem ziZ{σ:St}{l:List (Nat×List C)}:ZA σ (Zb b f xs++l)=((xs=[]\/σ.H b=some (Q5 f xs))/\ZA σ l):=by
 cases xs with
 |nil=>simp[Zb]
 |cons x xs=>simp[Zb,ZA]
@[go_sem] theorem acc_or{o:Option (List C)}:(xs=[]\/ZM f xs o=some (Q5 f xs))=True:=by cases xs<;>simp[ZM]
@[go_sem] theorem zk7:(Zb b f xs).map (fun p=>p.1)=zgL b xs:=by cases xs<;>rfl
@[go_sem] theorem ziI{D:List Nat}{l:List (Nat×List C)}:QT D (Zb b f xs++l)=QT D l:=by
 cases xs with
 |nil=>rfl
 |cons x xs=>show((Q5 f (x::xs)).all (Z9 D)&&QT D l)=_;rw[QH,wbo]
@[go_sem] theorem zug{D:List Nat}:Z9 D (QX b sz xs)=(xs.isEmpty||D.contains b):=by cases xs<;>rfl
@[go_sem] theorem zr9{D:List Nat}{t:Nat}:(zgL b xs++D).contains t=((t==b&&!xs.isEmpty)||D.contains t):=by
 cases xs with
 |nil=>simp[zgL]
 |cons x xs=>show(b::D).contains t=_;rw[wdN];simp
@[go_sem] theorem zB1:(AV.one (QX b sz xs)).lenOf=some xs.length:=by cases xs<;>rfl
@[go_sem] theorem zB2{P:Program}{t:TypeId}:zcj P t (.one (QX b sz xs))=(isSliceD (tdesc P t)=true):=by cases xs<;>simp[QX,zcj,AV.lenOf]
@[go_sem] theorem jC_acc{b':Nat}:jC b' (QX b sz xs)=if b=b' then zmv xs else QX b sz xs:=by
 cases xs with
 |nil=>simp[QX,zmv,jC]
 |cons y ys=>simp[QX,zmv,jC]
@[go_sem] theorem fC_acc{b' s n:Nat}{x:T}:fC b' s n x (QX b sz xs)=if b=b' then(match xs with|[]=>.t (.seq (some true) [])|_::_=>if sz=s/\xs.length=n then .t x else .t .junk)else QX b sz xs:=by
 cases xs with
 |nil=>simp[QX,fC]
 |cons y ys=>simp[QX,fC]
@[go_sem] theorem zAj:(AV.one (QX b sz xs)).cellsOf=some [QX b sz xs]:=rfl
@[go_sem] theorem zDq{n:Nat}:((n:Int)+1=0)=False:=Ql (by omega)
@[go_sem] theorem zB3{n:Nat}:((0:Int)<(n:Int)+1)=True:=Qf (by omega)
@[go_sem] theorem zAk{n:Nat}:((n:Int)+1).toNat=n+1:=by omega
@[go_sem] theorem zB4{n:Nat}:(n:Int)+1-1=n:=by omega
theorem zyM{x y:Bool}:(x||(!x||y))=true:=by cases x<;>rfl
theorem zyN{x:Bool}:(x||!x)=true:=by cases x<;>rfl
attribute [go_sem] zaf zyM zyN waG wb5 wbw
inductive WeakC:C->C->Prop where
 |refl {c:C}:WeakC c c
 |seq {nl:Option Bool} {ys:List (List T)}:WeakC (.t (.seq nl ys)) (.t (.seq none ys))
inductive WeakL:List C->List C->Prop where
 |nil:WeakL [] []
 |cons {c c':C} {l l':List C}:WeakC c c'->WeakL l l'->WeakL (c::l) (c'::l')
theorem WeakL.len{l l':List C}(h:WeakL l l'):l.length=l'.length:=by
 induction h with
 |nil=>rfl
 |cons _ _ ih=>simp[ih]
theorem WeakL.get{l l':List C}(h:WeakL l l'):∀ j (hj:j<l.length) (Yz:j<l'.length),WeakC l[j] l'[j]:=by
 induction h with
 |nil=>intro j hj;simp at hj
 |cons h _ ih =>
  intro j hj Yz;cases j with
  |zero=>exact h
  |succ j=>exact ih j (by simpa using hj) (by simpa using Yz)
theorem RC.weakC{w:World}{ok:Nat->Prop}{ρ:Nat->Option Nat}{c c':C}{v:Value}(h:RC w ok ρ c v)(hw:WeakC c c'):RC w ok ρ c' v:=by
 cases hw with
 |refl=>exact h
 |seq =>
  cases h with
  |t h=>cases h with
   |seq g1 g2 g0 g3 g4 g5 g6 g7 g8=>exact .t (.seq g1 g2 g0 (fun e=>by cases e) (fun e=>by cases e) g5 g6 g7 g8)
theorem zar{σ:St}(b:Nat){cs cs':List C}(hb:σ.H b=some cs)(hw:WeakL cs cs'):GStep σ (σ.withH (upd σ.H b (some cs'))):=by
 intro ρ ok a w h;refine⟨ρ,ok,⟨⟨fun b' cs2 hb'=>?_,fun b' hb'=>?_,h.inj,h.okR⟩,h.size,h.slots,h.defers,h.small⟩,Goes.refl ρ ok w⟩
 .simp only[St.withH,upd]at hb'
  split at hb'
  .rename_i e;subst e;cases hb'
   obtain⟨c,arr,el,k1,k2,k3,k4⟩:=h.heap _ _ hb;exact⟨c,arr,el,k1,k2,by rw[<-hw.len];exact k3,fun j hj Yz=>(k4 j (by rw[hw.len];exact hj) Yz).weakC (hw.get j _ hj)⟩
  .exact h.heap b' cs2 hb'
 .simp only[St.withH,upd]at hb'
  split at hb'
  .cases hb'
  .exact h.dom b' hb'
theorem SR.junk{ρ:Nat->Option Nat}{ok:Nat->Prop}{a:Act}{w:World}{σ:St}{cs:List C}(h:SR ρ ok (σ.withH (upd σ.H b (some cs))) a w)(YL:cs.all zd4=true):SR ρ ok (σ.renew b cs) a w:=by
 refine⟨⟨fun b' cs' hb'=>?_,fun b' hb'=>?_,h.inj,h.okR⟩,h.size,fun t=>?_,h.defers,h.small⟩
 .simp only[zbk]at hb'
  split at hb'
  .rename_i e
   cases hb'
   subst e;exact h.heap b' cs (by show upd σ.H b' (some cs) b'=_;simp[upd])
  .rename_i e
   cases hσ:σ.H b' with
   |none=>rw[hσ]at hb';cases hb'
   |some cs0 =>
    rw[hσ]at hb';cases hb'
    obtain⟨c,arr,el,h1,h2,h3,h4⟩:=h.heap b' cs0 (by show upd σ.H b (some cs) b'=_;simp[upd,e,hσ]);refine⟨c,arr,el,h1,h2,by simpa using h3,fun j hj Yz=>?_⟩;simp only[Qm]at hj;rw[Qq];exact(h4 j hj Yz).junked fun _ _ _ h=>h
 .simp only[zbk]at hb'
  split at hb'
  .cases hb'
  .rename_i e
   refine h.dom b' ?_;show upd σ.H b (some cs) b'=none;simp only[upd,e,if_false];cases hσ:σ.H b' with
   |none=>rfl
   |some _=>rw[hσ]at hb';cases hb'
 .exact(h.slots t).junked fun _ _ _ h=>h
end
section
variable {P:Program} {m:Nat} {σ:St} {K:AV->St->Prop} {d:Option Nat} {ty:TypeId} {pos:String} {af:Array Edge} {g:Option (Nat×Bool)} {x y:Operand} {t t':TypeId} {α:Type} {f:α->List T} {sz bytes:Nat}
theorem zgT{xs:List α}:(Q5 f xs).all zd4=true:=by
 simp only[Q5,wai,Qp];rintro x ⟨y,_,rfl⟩;rfl
theorem ZC(Wr:QV P t t' sz bytes)(hf:∀ x,(f x).length=sz){nl:Option Bool}{yv:List (List T)}(xs ys:List α){b:Nat}(hx:ev σ.s x=zaf b sz xs)(YL:σ.H b=ZM f xs none)(hy:ev σ.s y = .one (.t (.seq nl yv)))(Wl:yv=ys.map f)
  (hne:ys≠[]) (hb:(xs.length+ys.length)*bytes<=2^47) (Wn:b<PIN) (hK:K (zaf b sz (xs++ys)) (σ.renew b (Q5 f (xs++ys)))) :
  OpA P m ⟨d,.call { callee:=.builtin .append,args:=#[x,y],argTypes:=#[t,t'] },ty,pos,af,g⟩ σ K:=by
 obtain⟨h1,h2,h3,h4,h5,h6,h7,rfl,rfl,We⟩:=Wr;subst Wl;cases xs with
 |nil =>
  have:=zpX (P:=P) (σ:=σ) (d:=b) (o:=⟨d,.call { callee:=.builtin .append,args:=#[x,y],argTypes:=#[t,t'] },ty,pos,af,g⟩) rfl h1 h2 h3 h4 h5 h6 h7 We hx hy (fun z hz=>by obtain⟨w,_,rfl⟩:=Qp.1 hz;exact hf w) (by simpa using hne) (by simpa using hb) YL Wn;rw[Qm]at this;have e:zaf b (tsize P (telem P t)) ([]++ys) = .one (.vec b (tsize P (telem P t)) 0 ys.length):=by
   cases ys with
   |nil=>exact Qo rfl hne
   |cons _ _=>rfl
  rw[e]at hK;refine zhi (σ':=σ.renew b (Q5 f ([]++ys))) (fun ρ ok a w h=>?_) rfl hK;obtain⟨v,w',ρ',ok',k1,k2,k3,k4⟩:=this ρ ok a w h;exact⟨v,w',ρ',ok',k1,k2,SR.junk k3 zgT,k4⟩
 |cons z zs =>
  have:=zpY (P:=P) (σ:=σ) (o:=⟨d,.call { callee:=.builtin .append,args:=#[x,y],argTypes:=#[t,t'] },ty,pos,af,g⟩) rfl h1 h2 h3 h4 h5 h6 h7 We hx YL (zcC hf) hy (fun z hz=>by obtain⟨w,_,rfl⟩:=Qp.1 hz;exact hf w) (by simpa using hb) Wn;rw[zko,Qm]at this;have e:Q5 f (z::zs)++(ys.map f).flatten.map C.t=Q5 f (z::zs++ys):=by rw[zgM];rfl
  rw[e]at this;have e2:zaf b (tsize P (telem P t)) (z::zs++ys) = .one (.vec b (tsize P (telem P t)) 0 ((z::zs).length+ys.length)):=by
   show AV.one (.vec b _ 0 (z::(zs++ys)).length)=_;simp;omega
  rw[e2]at hK;exact zhi this rfl hK
theorem zdX{H:QD}{xs:List α}{b:Nat}(h:∀ x,(f x).length=sz)(hb:xs=[]\/H b=some (Q5 f xs)):FzC H (QX b sz xs) (eL f xs):=by
 cases xs with
 |nil=>exact .weak
 |cons x xs =>
  rcases hb with hb|hb
  .cases hb
  .exact zjr h hb rfl
theorem zlE{H:QD}{xs:List α}{b:Nat}(h:∀ x,(f x).length=sz)(hb:xs=[]\/H b=some (Q5 f xs)):FzA H (zaf b sz xs) (.one (eL f xs)):=.one (zdX h hb)
end
section
variable {P:Program}
def zhY(P:Program)(f:FuncId)(args:List AV)(r:TV):Prop :=
 (∀ (as:Array Value) w,(callFunc f as).run P w = .ok (.enter f as) w) /\
 ∀ (ok:Nat->Prop) (w:World) (vs:Array Value),(∀ n,ok n->n<w.heap.size)->zaH w ok noρ args vs ->
  Calls P f vs w fun e w'=>∃ v ok',e = .returned v/\RA w' ok' noρ (emb r) v/\Goes noρ ok w noρ ok' w'/\∀ n,ok' n->n<w'.heap.size
theorem zrW(hm:P.follows .mixedOrders=true){f:FuncId}{fn:Func}{c:Code}{args:List AV}{r:TV}(Xb:∀ (as:Array Value) w,(callFunc f as).run P w = .ok (.enter f as) w)(hf:P.funcs[f]? = some fn)(hb:fn.body=some c)
  (hn:args.length<=fn.ntmps) (Vt:fn.ntmps<=PIN) (h:wpA P c (zdt P fn.results.toList r) (zbb fn.ntmps args noH)):zhY P f args r:=by
 refine⟨Xb,fun ok w vs YA hv=>calls_of_wp hf hb (Code.wp_mono ?_ (zdD hm c _ _ noρ ok _ w (zdP ⟨fun b cs hb=>(by cases hb),fun _ _=>rfl,fun _ _ _ h=>(by cases h),fun n hn=>⟨YA n hn,fun _ h=>(by cases h)⟩⟩ hv (by rw[hv.1];simpa using hn) Vt) h))⟩;rintro e a w' ⟨σ,ρ',ok',⟨he,YX,Ej⟩,s,g⟩;obtain⟨v,r1,r2⟩:=zdv s YX;have Ur:∀ n,zbe ok' ρ' n->n<w'.heap.size:=fun n hn=>by
  rcases hn with hn|⟨b,hb⟩
  .exact(s.okR n hn).1
  .exact Yb s.toHR hb
 have Wc:Goes noρ ok w noρ (zbe ok' ρ') w':=by
  refine⟨g.size,g.same,g.shape,fun b n hb=>(by cases hb),fun n hn=>.inl (g.up n hn),fun n hn=>?_,fun _ _=>.inl rfl,g.env⟩;rcases hn with hn|⟨b,hb⟩
  .exact g.down n hn
  .rcases g.img b n hb with⟨b',h1⟩|h1
   .cases h1
   .exact .inr (.inr h1)
 have Y5:a.defers=[]/\∃ v,(results fn a.tmps).run P w' = .ok v w'/\∃ v' ok',Ending.returned v = .returned v'/\RA w' ok' noρ (emb r) v'/\Goes noρ ok w noρ ok' w'/\∀ n,ok' n->n<w'.heap.size :=
  ⟨s.defers,v,r1,v,zbe ok' ρ',rfl,Ej.sound s.toHR r2,Wc,Ur⟩
 rcases he with rfl|rfl<;>exact Y5
theorem zmE(hm:P.follows .mixedOrders=true){f:FuncId}{fn:Func}{c:Code}{n:Nat}{rs:List ResultVar}{args:List AV}{r:TV}(Xb:∀ (as:Array Value) w,(callFunc f as).run P w = .ok (.enter f as) w)(hf:P.funcs[f]? = some fn)
  (hb:fn.body=some c) (hn:fn.ntmps=n) (UK:fn.results=rs.toArray) (hl:args.length<=n) (Vt:n<=PIN) (h:wpA P c (zdt P rs r) (zbb n args noH)):zhY P f args r:=by
 subst hn;have e:fn.results.toList=rs:=by rw[UK]
 subst e;exact zrW hm Xb hf hb hl Vt h
theorem zhD{m:Nat}{f:FuncId}{args:List AV}{r:TV}{σ:St}{K:AV->St->Prop}(hm:m=2)(h:zhY P f args r)(hc:args.all (zbW [])=true)(hK:K (emb r) σ):ZK P m f args σ K:=by
 refine .inr (.inr (.inl ⟨hm,emb r,σ,rfl,⟨h.1,fun ρ ok a w vs hs hv=>?_⟩,hK⟩));refine(h.2 ok w vs (fun n hn=>(hs.okR n hn).1) ⟨hv.1,fun i hi Y6=>?_⟩).mono ?_
 .have h1:=(hv.2 i hi Y6).keep (D:=[]) (wai.1 hc _ (Qh hi))
  have e:(fun b=>if b∈([]:List Nat)then ρ b else none)=noρ:=by funext b;simp[noρ]
  rwa[e]at h1
 .rintro e w' ⟨v,ok',rfl,hr,hg,Yw⟩
  obtain⟨s1,s2⟩:=hs.pure hg Yw;exact⟨v,ρ,ok',rfl,zew hr _ rfl,s1,s2⟩
end
section
variable {P:Program}
theorem zzm{s:Sem Value}{nx:Next}{w w':World}(h:(do pure (Next.value (<-s)):Sem Next).run P w = .ok nx w'):∃ u,nx = .value u:=by
 rw[Sem.run_bind]at h;cases hs:s.run P w with
 |ok v w1=>rw[hs]at h;simp only[Result.andThen,Sem.run_pure]at h;cases h;exact⟨v,rfl⟩
 |halt a b=>rw[hs]at h;simp only[Result.andThen]at h;cases h
theorem zna{m:Nat}{σ:St}{K:AV->St->Prop}{d:Option Nat}{ty:TypeId}{pos:String}{af:Array Edge}{g:Option (Nat×Bool)}{t:TypeId}{n:Nat}{ps:List (Nat×Operand)}
  (h:tok P t=true/\isSliceD (tdesc P t)=true/\tok P (telem P t)=true/\n*tsize P (telem P t)<=2^24/\0<n*tsize P (telem P t)/\((tzero P (telem P t)).map (·.length))=some (tsize P (telem P t)) /\
   (zb8 P t n (ps.map fun p=>(p.1,ev σ.s p.2))).isSome=true) (hK:K ((zb8 P t n (ps.map fun p=>(p.1,ev σ.s p.2))).getD .junk) σ):OpA P m ⟨d,.buildSlice t n ps.toArray,ty,pos,af,g⟩ σ K:=by
 refine zhi (σ':=σ) (fun ρ ok a w hs=>?_) rfl hK;obtain⟨h1,h2,h3,h4,h5,h6,h7⟩:=h;have:=zmy hs (o:=⟨d,.buildSlice t n ps.toArray,ty,pos,af,g⟩) rfl h1 h2 h3 h4 h5 h6 h7;obtain⟨nx,v,w',ρ',ok',k1,Yx,k2,k3,k4⟩:=this;have hv:∃ u,nx = .value u:=by
  simp only[execOp]at k1;exact zzm k1
 rcases Yx with rfl|⟨rfl,_⟩
 .exact⟨v,w',ρ',ok',k1,by simpa using k2,k3,k4⟩
 .obtain⟨u,hu⟩:=hv;cases hu
end
end Go.Abs
namespace Go.Abs
open Go Go.ChangeShapes Go.WideShapes Go.RowKit
section
variable {P:Program}
inductive WT(P:Program):TypeId->List T->Prop where
 |bool {t:TypeId} {b:Bool}:P.underlying t=some .bool->WT P t [.lit (.bool b)]
 |int {t:TypeId} {k:IntKind} {n:Int}:P.underlying t=some (.int k)->(Lit.int k n).wf=true->WT P t [.lit (.int k n)]
 |str {t:TypeId} {s:ByteArray}:P.underlying t=some .string->s.size<=maxLen->WT P t [.lit (.string s)]
 |slice {t e:TypeId} {xs:List (List T)}:P.underlying t=some (.slice e)->(∀ x,x∈xs->WT P e x)->(∀ x,x∈xs->x.length=P.cellsOf e)->xs.length<=maxLen->WT P t [.seq none xs]
 |struct {t:TypeId} {fs:Array Field} {tss:List (List T)}:P.underlying t=some (.struct fs)->tss.length=fs.size->(∀ i (h:i<fs.size) (h':i<tss.length),WT P fs[i].type tss[i])->WT P t tss.flatten
def zhE(P:Program):Nat->List Field->Option Nat
 |o,[]=>some o
 |o,f::l=>if f.offset=o then zhE P (o+P.cellsOf f.type) l else none
def zei(P:Program)(S:TypeId->Bool)(t:TypeId):Bool :=
 match P.underlying t with
 |some .bool|some (.int _)|some .string=>true
 |some (.slice e)=>S e&&decide (0<P.cellsOf e)
 |some (.struct fs)=>fs.toList.all (fun f=>S f.type)&&(zhE P 0 fs.toList==some (P.cellsOf t))
 |_=>false
def RTs(w:World)(ok:Nat->Prop)(ts:List T)(cs:List Value):Prop:=ts.length=cs.length/\∀ j (h:j<ts.length) (h':j<cs.length),RT w ok ts[j] cs[j]
theorem RTs.one{w:World}{ok:Nat->Prop}{x:T}{v:Value}(h:RT w ok x v):RTs w ok [x] [v]:=⟨rfl,fun j hj Yz=>by
 have:j=0:=by simpa using hj
 subst this;exact h⟩
theorem RTs.append{w:World}{ok:Nat->Prop}{xs ys:List T}{us vs:List Value}(h:RTs w ok xs us)(h':RTs w ok ys vs):RTs w ok (xs++ys) (us++vs):=by
 obtain⟨h1,h2⟩:=h;obtain⟨h3,h4⟩:=h';refine⟨by simp[h1,h3],fun j hj Yz=>?_⟩;by_cases Yw:j<xs.length
 .rw[wbt Yw,wbt (by omega)];exact h2 j Yw (by omega)
 .rw[wbA (by omega),wbA (by omega)]
  simp only[Qj]at hj Yz;have:=h4 (j-xs.length) (by omega) (by omega);simpa only[h1]using this
theorem zrO{cs:List Value}:∀ (l:List Field) (o:Nat),zhE P o l=some cs.length->cs.drop o=(l.map fun f=>(cs.drop f.offset).take (P.cellsOf f.type)).flatten:=by
 intro l
 induction l with
 |nil=>intro o h;simp only[zhE,wa1]at h;subst h;simp
 |cons f l ih =>
  intro o h;simp only[zhE]at h;split at h
  .rename_i ho
   rw[waq,wbx,<-ih _ h,ho];rw[show cs.drop (o+P.cellsOf f.type)=(cs.drop o).drop (P.cellsOf f.type) by rw[wcx]];exact(wb2 _ _).symm
  .cases h
variable {H:Type} {enc:TypeId×Value->H} {w:World} {sp:Nat->Bool} {held:Bool}
theorem RTs.flatten{w:World}{ok:Nat->Prop}:∀ {tss:List (List T)} {css:List (List Value)},tss.length=css.length->(∀ i (h:i<tss.length) (h':i<css.length),RTs w ok tss[i] css[i])->RTs w ok tss.flatten css.flatten
 |[],[],_,_=>⟨rfl,fun j h _=>Qo h (by simp)⟩
 |x::l,y::l',hl,h=>by
  rw[wbx,wbx];exact(h 0 (by simp) (by simp)).append (RTs.flatten (by simpa using hl) fun i hi Y6=>h (i+1) (by simpa using hi) (by simpa using Y6))
 |[],_::_,hl,_=>by simp at hl
 |_::_,[],hl,_=>by simp at hl
theorem zsx{w:World}{b:Nat}{a:Addr}{n:Nat}{cs:List Value}(h:w.cells? b a n=some cs):cs.length=n/\∀ i (hi:i<cs.length),w.cell? (a.add i)=some cs[i]:=by
 have:=World.cells?_some h;refine⟨this.2.1,fun i hi=>?_⟩;have h2:=this.2.2 i (by have:=this.2.1;omega);rw[h2,waa hi]
theorem zmH{α:Type}{n:Nat}{p:Nat->α->Prop}(h:∀ i,i<n->∃ x,p i x):∃ l:List α,l.length=n/\∀ i (hi:i<l.length),p i l[i]:=by
 induction n with
 |zero=>exact⟨[],rfl,fun i hi=>Qo hi (by simp)⟩
 |succ n ih =>
  obtain⟨l,h1,h2⟩:=ih (fun i hi=>h i (by omega));obtain⟨x,hx⟩:=h n (by omega);refine⟨l++[x],by simp[h1],fun i hi=>?_⟩;by_cases Yw:i<l.length
  .rw[wbt Yw];exact h2 i Yw
  .have:i=n:=by simp at hi;omega
   subst this;rw[wbA (by omega)];simpa[h1]using hx
theorem ztc{w:World}{a:Addr}{z:Value}(h:w.cell? a=some z):a=⟨a.block,a.off,none⟩/\a.block<w.heap.size:=by
 obtain⟨b,o,s⟩:=a;cases hh:w.heap[b]? with
 |none=>simp[World.cell?,hh]at h
 |some ob =>
  have Yw:=(wde.1 hh).1;cases s with
  |none=>exact⟨rfl,Yw⟩
  |some _=>cases ob<;>simp[World.cell?,hh]at h
theorem zv9(b o i j:Nat):((⟨b,o,none⟩:Addr).add i).add j=⟨b,o+(i+j),none⟩:=by
 unfold Addr.add;by_cases hi:i=0<;>by_cases hj:j=0<;>simp[hi,hj,wbg]
theorem ztd{S:TypeId->Bool}(hS:∀ t,S t=true->zei P S t=true):∀ (fuel:Nat) (t:TypeId) (cs:List Value) (x:DataW H×List MemPlace),S t=true->DataW.trod enc P w 0 sp held fuel t cs=some x ->
  ∃ ts,RTs w (·<w.heap.size) ts cs/\WT P t ts:=by
 intro fuel
 induction fuel with
 |zero=>intro t cs x _ h;simp[DataW.trod]at h
 |succ fuel ih =>
  intro t cs x RR h;have hp:=hS t RR;unfold zei at hp;split at hp
  .rename_i ht
   obtain⟨b,rfl,_⟩:=DataW.trod_bool ht h;exact⟨[.lit (.bool b)],.one (.lit rfl),.bool ht⟩
  .rename_i k ht
   obtain⟨n,rfl,_,hw⟩:=DataW.trod_int ht h;exact⟨[.lit (.int k n)],.one (.lit rfl),.int ht hw⟩
  .rename_i ht
   obtain⟨s,rfl,_,hs⟩:=DataW.trod_string ht h;exact⟨[.lit (.string s)],.one (.lit rfl),.str ht hs⟩
  .rename_i e ht
   rw[wag,way]at hp;rcases DataW.trod_slice ht h with⟨rfl,_⟩|⟨a,len,cap,elems,rest,n,hn,rfl,_,_,hl,hm,Y0,Y1,_,_⟩
   .exact⟨[.seq none []],.one (.seq (sz:=0) (u:=fun _ _=>undef) (blk:=0) (off:=0) rfl (Qd _) (fun _=>rfl) (by simp) (by simp) (by simp) (by simp) (fun i hi=>Qo hi (by simp)) (fun i hi=>Qo hi (by simp))),.slice ht (by simp) (by simp) (by simp)⟩
   .cases hn
    have each:∀ i,i<len->∃ y:List T×List Value,y.2.length=P.cellsOf e/\(∀ j (hj:j<y.2.length),w.cell? ((a.add (i*P.cellsOf e)).add j)=some y.2[j])/\RTs w (·<w.heap.size) y.1 y.2/\WT P e y.1:=by
     intro i hi;have h1:=Y1 i hi;rw[waa (by omega),Option.bind_eq_some_iff]at h1;obtain⟨cs',YL,hy⟩:=h1;obtain⟨c1,c2⟩:=zsx YL;obtain⟨ts,r1,r2⟩:=ih e cs' _ hp.1 hy;refine⟨(ts,cs'),c1,fun j hj=>?_,r1,r2⟩;exact c2 j hj
    obtain⟨l,l1,l2⟩:=zmH each;have Xe:0<len->a=⟨a.block,a.off,none⟩/\a.block<w.heap.size:=fun h0=>by
     obtain⟨q1,q2,_⟩:=l2 0 (by omega);have:=q2 0 (by omega);exact ztc (z:=(l[0]).2[0]) (by rw[<-this];simp[Addr.add])
    have KD:(l.map (·.1)).length=len:=by simp[l1]
    refine⟨[.seq none (l.map (·.1))],.one (.seq (sz:=P.cellsOf e) (u:=fun i j=>((l[i]?).bind fun y=>y.2[j]?).getD undef) (blk:=a.block) (off:=a.off) KD.symm hl (by simp) (by simp) (by simp) ?_ ?_ ?_ ?_),.slice ht ?_ ?_ (by rw[KD];omega)⟩
    .intro y hy
     obtain⟨z,hz,rfl⟩:=Qp.1 hy;obtain⟨i,hi,rfl⟩:=waK.1 hz;obtain⟨q1,_,q3,_⟩:=l2 i hi;rw[q3.1,q1]
    .intro hne
     have h0:0<len:=by
      rcases wcb len with h0|h0
      .exfalso;apply hne;rw[<-wbd,KD];exact h0
      .exact h0
     exact⟨by rw[<-(Xe h0).1],(Xe h0).2⟩
    .intro i hi j hj
     have Y6:i<l.length:=by simpa using hi
     obtain⟨q1,q2,q3,_⟩:=l2 i Y6;simp only[Qq]at hj;have Yz:j<l[i].2.length:=by rw[<-q3.1];exact hj
     have:=q2 j Yz;rw[waa Y6];simp only[wdf,waa Yz,waV];rw[<-this];have ha:=(Xe (by omega)).1;rw[ha,zv9]
    .intro i hi j hj
     have Y6:i<l.length:=by simpa using hi
     obtain⟨q1,q2,q3,_⟩:=l2 i Y6;simp only[Qq]at hj ⊢;have Yz:j<l[i].2.length:=by rw[<-q3.1];exact hj
     rw[waa Y6];simp only[wdf,waa Yz,waV];exact q3.2 j hj Yz
    .intro y hy
     obtain⟨z,hz,rfl⟩:=Qp.1 hy;obtain⟨i,hi,rfl⟩:=waK.1 hz;exact(l2 i hi).2.2.2
    .intro y hy
     obtain⟨z,hz,rfl⟩:=Qp.1 hy;obtain⟨i,hi,rfl⟩:=waK.1 hz;obtain⟨q1,_,q3,_⟩:=l2 i hi;rw[q3.1,q1]
  .rename_i fs ht
   rw[wag,wai,beq_iff_eq]at hp;obtain⟨xs,n,hn,_,hl,Y0,hf⟩:=DataW.trod_struct ht h;cases hn
   have each:∀ i,i<fs.size->∃ ts:List T,∀ (hi:i<fs.size),RTs w (·<w.heap.size) ts ((cs.drop fs[i].offset).take (P.cellsOf fs[i].type))/\WT P fs[i].type ts:=by
    intro i hi;have h1:=hf i fs[i] (by simp[hi]);rw[waa (by omega)]at h1;obtain⟨ts,r1,r2⟩:=ih _ _ _ (hp.1 _ (by simp)) h1;exact⟨ts,fun _=>⟨r1,r2⟩⟩
   obtain⟨l,l1,l2⟩:=zmH each;refine⟨l.flatten,?_,.struct ht l1 fun i hi Y6=>(l2 i Y6 hi).2⟩;have YL:=zrO (cs:=cs) fs.toList 0 (by rw[hl];exact hp.2);rw[wbM]at YL;rw[YL];refine .flatten (by simp[l1]) fun i hi Y6=>?_
   simp only[Qq,wbO];exact(l2 i hi (by omega)).1
  .cases hp
def WTV(P:Program)(t:TypeId)(tv:TV):Prop :=
 match P.underlying t with
 |some (.struct _)=>∃ ts,tv = .agg ts/\WT P t ts
 |_=>∃ x,tv = .one x/\WT P t [x]
theorem RTs.inv_one{w:World}{ok:Nat->Prop}{ts:List T}{v:Value}(h:RTs w ok ts [v]):∃ x,ts=[x]/\RT w ok x v:=by
 obtain⟨h1,h2⟩:=h
 match ts,h1 with
 |[x],_=>exact⟨x,rfl,h2 0 (by simp) (by simp)⟩
theorem zuq{S:TypeId->Bool}(hS:∀ t,S t=true->zei P S t=true){t:TypeId}{v:Value}{d:DataW H}{p:List MemPlace}{r:Reach}{base:Nat}(RR:S t=true)(YO:Value.okWide P w r base t v)
  (h:DataW.Trod enc P w 0 sp held t v d p):∃ tv:TV,RA w (·<w.heap.size) noρ (emb tv) v/\WTV P t tv:=by
 obtain⟨fuel,hf⟩:=h;obtain⟨ts,h1,h2⟩:=ztd hS fuel t _ _ RR hf;have hp:=hS t RR;unfold zei at hp;unfold Value.okWide at YO;unfold WTV;split at hp
 .rename_i ht
  rw[ht]at YO ⊢;have hc:v.cells.toList=[v]:=by
   cases v<;>simp[Cell.okWide,Cell.ok,ht,Value.cells]at YO ⊢
  rw[hc]at h1;obtain⟨x,rfl,hx⟩:=h1.inv_one;exact⟨.one x,.one (.t hx),x,rfl,h2⟩
 .rename_i k ht
  rw[ht]at YO ⊢;have hc:v.cells.toList=[v]:=by
   cases v<;>simp[Cell.okWide,Cell.ok,ht,Value.cells]at YO ⊢
  rw[hc]at h1;obtain⟨x,rfl,hx⟩:=h1.inv_one;exact⟨.one x,.one (.t hx),x,rfl,h2⟩
 .rename_i ht
  rw[ht]at YO ⊢;have hc:v.cells.toList=[v]:=by
   cases v<;>simp[Cell.okWide,Cell.ok,ht,Value.cells]at YO ⊢
  rw[hc]at h1;obtain⟨x,rfl,hx⟩:=h1.inv_one;exact⟨.one x,.one (.t hx),x,rfl,h2⟩
 .rename_i e ht
  rw[ht]at YO ⊢;have hc:v.cells.toList=[v]:=by
   cases v<;>simp[Cell.okWide,Cell.ok,ht,Value.cells]at YO ⊢
  rw[hc]at h1;obtain⟨x,rfl,hx⟩:=h1.inv_one;exact⟨.one x,.one (.t hx),x,rfl,h2⟩
 .rename_i fs ht
  rw[ht]at YO ⊢;obtain⟨cs,rfl,_,_⟩:=YO;refine⟨.agg ts,?_,ts,rfl,h2⟩;obtain⟨r1,r2⟩:=h1;have r1':ts.length=cs.size:=by simpa[Value.cells]using r1
  refine .agg (by simpa using r1'.symm) fun j hj Yz=>?_
  have X1:j<ts.length:=by simpa using hj
  have:=r2 j X1 (by simpa[Value.cells]using Yz);simp only[Qq];exact .t (by simpa[Value.cells]using this)
 .cases hp
inductive WTVs(P:Program):List TypeId->List TV->Prop where
 |nil:WTVs P [] []
 |cons {t:TypeId} {ts:List TypeId} {x:TV} {xs:List TV}:WTV P t x->WTVs P ts xs->WTVs P (t::ts) (x::xs)
theorem zni{S:TypeId->Bool}(hS:∀ t,S t=true->zei P S t=true){r:Reach}{base:Nat}:∀ {ts:List TypeId} {vs:List Value} {ds:List (DataW H)} {p:List MemPlace},(∀ t∈ts,S t=true) ->
  (∀ (j:Nat) t v,ts[j]? = some t->vs[j]? = some v->Value.okWide P w r base t v)->DataW.TrodAll enc P w 0 sp held ts vs ds p ->
  ∃ tvs:List TV,tvs.length=vs.length/\(∀ i (h:i<tvs.length) (h':i<vs.length),RA w (·<w.heap.size) noρ (emb tvs[i]) vs[i])/\WTVs P ts tvs
 |[],_,_,_,_,_,h=>by
  obtain⟨rfl,rfl,rfl⟩:=trodAll_nil h;exact⟨[],rfl,fun i h=>Qo h (by simp),.nil⟩
 |t::ts,_,_,_,RR,YO,h=>by
  obtain⟨v,vs,d,ds,a,b,rfl,rfl,rfl,h1,h2⟩:=trodAll_cons h;obtain⟨tvs,e1,e2,e3⟩:=zni hS (fun t ht=>RR t (by simp[ht])) (fun j t v ht hv=>YO (j+1) t v (by simpa using ht) (by simpa using hv)) h2;obtain⟨tv,r1,r2⟩:=zuq hS (RR t (by simp)) (YO 0 t v rfl rfl) h1;refine⟨tv::tvs,by simp[e1],fun i hi Y6=>?_,.cons r2 e3⟩;cases i with
  |zero=>exact r1
  |succ i=>exact e2 i (by simpa using hi) (by simpa using Y6)
theorem zrP{ts:List TypeId}(hl:laidOutB P=true)(hr:∀ t∈ts,P.readableRec t=true/\t<P.types.size){W W':World}{sp':Nat->Bool}:∀ {vs:List Value} {ds:List (DataW H)} {ps:List MemPlace},
  DataW.TrodAll enc P W 0 (fun _=>true) true ts vs ds ps->(∀ p∈ps,W.sameAt W' p)->(∀ p∈ps,sp' p.block=true)->DataW.TrodAll enc P W' 0 sp' true ts vs ds ps:=by
 induction ts with
 |nil =>
  intro vs ds ps h _ _;obtain⟨rfl,rfl,rfl⟩:=trodAll_nil h;rfl
 |cons t ts ih =>
  intro vs ds ps h h1 h2;obtain⟨v,vs1,d,ds1,a,b,rfl,rfl,rfl,h3,h4⟩:=trodAll_cons h;have WV:=hr t (by simp);exact⟨a,b,WideElems.Trod_stays hl WV.1 WV.2 h3 (fun p hp=>h1 p (by simp[hp])) (fun p hp=>h2 p (by simp[hp])),
   ih (fun t ht=>hr t (by simp[ht])) h4 (fun p hp=>h1 p (by simp[hp])) (fun p hp=>h2 p (by simp[hp])),rfl⟩
theorem zmz{s:ChangeSpec}{f:FuncId}{fn:Func}{tb:TypeId}{S:TypeId->Bool}(hS:∀ t,S t=true->zei P S t=true)(hl:laidOutB P=true)(Gu:∀ t∈fn.params.toList,S t=true/\P.readableRec t=true/\t<P.types.size)
  (YX:fn.resultTypes=#[tb]) (WD:P.underlying tb=some .bool) (Rs:s.vars=[])
  (J9:∀ ds:List (DataW H),ds.length=fn.params.size->s.fn H ds={ results:=[.lit (.bool true)],args:=ds })
  (hp:∀ tvs:List TV,WTVs P fn.params.toList tvs->Q9 P f tvs (.one (.lit (.bool true))))
  {W:World} {base:Nat} {args:Array Value} {ds gs:List (DataW H)} {before:List MemPlace}
  (YO:∀ (j:Nat) t v,fn.params[j]? = some t->args[j]? = some v->Value.okWide P W .any base t v)
  (hW:DataW.Whole enc P fn.params.toList s.vars false W args.toList ds gs before) :
  Calls P f args W fun e W'=>∃ v,e = .returned v/\s.post enc P fn false true false false W args v W':=by
 have Lw:=hW;obtain⟨p,q,hA,hV,rfl,Ej,NS⟩:=hW;obtain⟨tvs,e1,e2,e3⟩:=zni hS (fun t ht=>(Gu t ht).1) (fun j t v ht hv=>YO j t v (by simpa using ht) (by simpa using hv)) hA;rw[Rs]at hV;have Gv:gs=[]/\q=[]:=by
  cases gs with
  |nil=>exact⟨rfl,hV⟩
  |cons _ _=>exact hV.elim
 obtain⟨rfl,rfl⟩:=Gv;have Fh:zaH W (·<W.heap.size) noρ (tvs.map emb) args:=⟨by simpa using e1.symm,fun i hi Y6=>by
  simp only[Qq];have:=e2 i (by simpa using hi) (by simpa using Y6);simpa using this⟩
 refine((hp tvs e3).2 (·<W.heap.size) W args (fun n hn=>hn) Fh).mono fun e W' ⟨v,ok',he,hr,hg,_⟩=>⟨v,he,?_⟩
 have hv:v = .bool true:=by
  cases hr with
  |one hr=>cases hr with
   |t hr=>cases hr with
    |lit _=>rfl
 subst hv;have Y0:ds.length=fn.params.size:=by
  have:∀ {ts:List TypeId} {vs:List Value} {ds:List (DataW H)} {p:List MemPlace},DataW.TrodAll enc P W 0 (fun _=>true) true ts vs ds p->ds.length=ts.length:=by
   intro ts
   induction ts with
   |nil=>intro vs ds p h;obtain⟨rfl,rfl,rfl⟩:=trodAll_nil h;rfl
   |cons t ts ih =>
    intro vs ds p h;obtain⟨v,vs1,d,ds1,a,b,rfl,rfl,rfl,h3,h4⟩:=trodAll_cons h;simp[ih h4]
  simpa using this hA
 have Y4:∀ k,k<W.heap.size->W'.heap[k]? = W.heap[k]?:=fun k hk=>hg.same k hk fun b hb=>by cases hb
 have Yw:∀ x∈p,x.block<W.heap.size:=fun x hx=>by simpa using Lw.lt x (by simpa using hx)
 have Xe:=J9 ds Y0;refine⟨ds,[],p++[],[],p,[],Lw,?_,?_,?_,?_,fun h=>nomatch h⟩
 .rw[wal,Xe,YX]
  exact trodAll_mk1 (shut_bool WD true)
 .rw[wal,Xe]
  exact zrP hl (fun t ht=>(Gu t ht).2) hA (fun x hx=>by
   have hb:=Y4 _ (Yw x hx);cases x with
   |cell b o=>exact World.cell?_of_block (w:=W) hb
   |map b=>exact hb) (fun x hx=>by simpa using Yw x hx)
 .rw[wal,Xe,Rs];rfl
 .refine⟨hg.env.1,hg.env.2,fun i hi=>?_⟩
  have:=(World.keptBut_refl W (fun p'=>p'∈p++[]/\(p'∈([]:List MemPlace)\/p'∈p\/p'∈([]:List MemPlace)))).2.2 i hi;rw[Y4 i hi];exact this
end
end Go.Abs
namespace Go.Abs
inductive TW:T->T->Prop where
 |refl {x:T}:TW x x
 |seq {nl nl':Option Bool} {xs ys:List (List T)}:(nl'=nl\/nl'=none)->xs.length=ys.length->(∀ i (h:i<xs.length) (h':i<ys.length),xs[i].length=ys[i].length) ->
   (∀ i (h:i<xs.length) (h':i<ys.length) j (g:j<xs[i].length) (g':j<ys[i].length),TW (xs[i][j]) (ys[i][j]))->TW (.seq nl xs) (.seq nl' ys)
theorem RT.tw{w:World}{ok:Nat->Prop}:∀ {x y:T},TW x y->∀ {v:Value},RT w ok x v->RT w ok y v:=by
 intro x y h
 induction h with
 |refl=>intro v h;exact h
 |@seq nl nl' xs ys h0 h1 h2 _ ih =>
  intro v h;cases h with
  |@seq _ _ A n c sz u blk off g1 g2 g0 g3 g4 g5 g6 g7 g8 =>
   refine .seq (sz:=sz) (u:=u) (blk:=blk) (off:=off) (g1.trans h1) g2 g0 (fun e=>?_) (fun e=>?_) ?_ (fun hne=>g6 (fun e=>hne (wbd.1 (by rw[<-h1,e];rfl)))) (fun i hi j hj=>?_) (fun i hi j hj=>?_)
   .rcases h0 with h0|h0
    .exact g3 (by rw[<-h0];exact e)
    .rw[h0]at e;cases e
   .rcases h0 with h0|h0
    .exact g4 (by rw[<-h0];exact e)
    .rw[h0]at e;cases e
   .intro y hy
    obtain⟨i,hi,rfl⟩:=waK.1 hy;rw[<-h2 i (by rw[h1];exact hi) hi];exact g5 _ (Qh _)
   .have Y6:i<xs.length:=by rw[h1];exact hi
    exact g7 i Y6 j (by rw[h2 i Y6 hi];exact hj)
   .have Y6:i<xs.length:=by rw[h1];exact hi
    have Yz:j<xs[i].length:=by rw[h2 i Y6 hi];exact hj
    exact ih i Y6 hi j Yz hj (g8 i Y6 j Yz)
inductive TWs:List T->List T->Prop where
 |nil:TWs [] []
 |cons {x y:T} {xs ys:List T}:TW x y->TWs xs ys->TWs (x::xs) (y::ys)
theorem TWs.get{xs ys:List T}(h:TWs xs ys):xs.length=ys.length/\∀ j (g:j<xs.length) (g':j<ys.length),TW xs[j] ys[j]:=by
 induction h with
 |nil=>exact⟨rfl,fun j g=>by simp at g⟩
 |cons h _ ih =>
  refine⟨by simp[ih.1],fun j g g'=>?_⟩;cases j with
  |zero=>exact h
  |succ j=>exact ih.2 j (by simpa using g) (by simpa using g')
inductive TWss:List (List T)->List (List T)->Prop where
 |nil:TWss [] []
 |cons {x y:List T} {xs ys:List (List T)}:TWs x y->TWss xs ys->TWss (x::xs) (y::ys)
theorem TWss.get{xs ys:List (List T)}(h:TWss xs ys):xs.length=ys.length/\∀ i (g:i<xs.length) (g':i<ys.length),TWs xs[i] ys[i]:=by
 induction h with
 |nil=>exact⟨rfl,fun j g=>by simp at g⟩
 |cons h _ ih =>
  refine⟨by simp[ih.1],fun j g g'=>?_⟩;cases j with
  |zero=>exact h
  |succ j=>exact ih.2 j (by simpa using g) (by simpa using g')
theorem TW.weak{nl:Option Bool}{xs:List (List T)}:TW (.seq nl xs) (.seq none xs):=.seq (.inr rfl) rfl (fun _ _ _=>rfl) fun _ _ _ _ _ _=>.refl
theorem TWs.refl:∀ {xs:List T},TWs xs xs
 |[]=>.nil
 |_::_=>.cons .refl TWs.refl
theorem TWss.refl:∀ {xs:List (List T)},TWss xs xs
 |[]=>.nil
 |_::_=>.cons TWs.refl TWss.refl
inductive TVW:TV->TV->Prop where
 |one {x y:T}:TW x y->TVW (.one x) (.one y)
 |agg {xs ys:List T}:TWs xs ys->TVW (.agg xs) (.agg ys)
inductive TVWs:List TV->List TV->Prop where
 |nil:TVWs [] []
 |cons {x y:TV} {xs ys:List TV}:TVW x y->TVWs xs ys->TVWs (x::xs) (y::ys)
theorem TVW.refl1{x:T}:TVW (.one x) (.one x):=.one .refl
theorem TVW.reflA{xs:List T}:TVW (.agg xs) (.agg xs):=.agg .refl
theorem RA.tw{w:World}{ok:Nat->Prop}{ρ:Nat->Option Nat}{x y:TV}(h:TVW x y){v:Value}(hr:RA w ok ρ (emb x) v):RA w ok ρ (emb y) v:=by
 cases h with
 |one h =>
  cases hr with
  |one hr=>cases hr with
   |t hr=>exact .one (.t (hr.tw h))
 |@agg xs ys h =>
  cases hr with
  |@agg _ vs h1 h2 =>
   obtain⟨e,g⟩:=h.get;simp only[Qm]at h1 h2;refine .agg (by simp only[Qm];rw[h1,e]) fun j hj Yz=>?_
   simp only[Qm]at hj;have:=h2 j (by rw[e];exact hj) Yz;rw[Qq]at this ⊢;cases this with
   |t hr=>exact .t (hr.tw (g j (by rw[e];exact hj) hj))
theorem TVWs.get{xs ys:List TV}(h:TVWs xs ys):xs.length=ys.length/\∀ j (g:j<xs.length) (g':j<ys.length),TVW xs[j] ys[j]:=by
 induction h with
 |nil=>exact⟨rfl,fun j g=>by simp at g⟩
 |cons h _ ih =>
  refine⟨by simp[ih.1],fun j g g'=>?_⟩;cases j with
  |zero=>exact h
  |succ j=>exact ih.2 j (by simpa using g) (by simpa using g')
theorem Q9.tw{P:Program}{f:FuncId}{tvs tvs':List TV}{r:TV}(hp:Q9 P f tvs r)(h:TVWs tvs' tvs):Q9 P f tvs' r:=by
 obtain⟨e,g⟩:=h.get;refine⟨hp.1,fun ok w vs YA hv=>hp.2 ok w vs YA ⟨by rw[hv.1];simp[e],fun i hi Y6=>?_⟩⟩;simp only[Qm]at hi;have:=hv.2 i (by simp only[Qm];rw[e];exact hi) Y6;rw[Qq]at this ⊢;exact this.tw (g i (by rw[e];exact hi) hi)
def thI(θ:Nat->Nat)(b:Nat):Nat:=θ (b-PIN)
def thC(θ:Nat->Nat):C->C
 |.t x=>.t x
 |.ptr b o=>.ptr (thI θ b) o
 |.vec b s o n=>.vec (thI θ b) s o n
 |.fn f caps=>.fn f (caps.map fun p=>(thI θ p.1,p.2))
def thA(θ:Nat->Nat):AV->AV
 |.one c=>.one (thC θ c)
 |.agg cs=>.agg (cs.map (thC θ))
 |.iptr cs=>.iptr cs
 |.tup xs=>.tup (thAs xs)
 |.junk=>.junk
where thAs:List AV->List AV
 |[]=>[]
 |x::l=>thA θ x::thAs l
theorem zk8{θ:Nat->Nat}:∀ xs:List AV,thA.thAs θ xs=xs.map (thA θ)
 |[]=>rfl
 |x::l=>by show thA θ x::thA.thAs θ l=_;rw[zk8 l];rfl
def inC(X:QD):C->Prop
 |.t _=>True
 |.ptr b _=>X b≠none
 |.vec b _ _ _=>X b≠none
 |.fn _ caps=>∀ p∈caps,X p.1≠none
def inA(X:QD):AV->Prop
 |.one c=>inC X c
 |.agg cs=>∀ c∈cs,inC X c
 |.iptr _=>True
 |.tup xs=>inAs xs
 |.junk=>True
where inAs:List AV->Prop
 |[]=>True
 |x::l=>inA X x/\inAs l
theorem zl8{X:QD}{θ:Nat->Nat}(VT:∀ c:C,inC X c->thC θ c=c):∀ r:AV,inA X r->thA θ r=r
 |.one c,hr=>by show AV.one _=_;rw[VT c hr]
 |.agg cs,hr=>by
  show AV.agg _=_;rw[wau (g:=id) fun c hc=>VT c (hr c hc),wb0]
 |.iptr cs,_=>rfl
 |.junk,_=>rfl
 |.tup xs,hr=>by
  show AV.tup _=_;rw[thA_ids VT xs hr]
where thA_ids {X:QD} {θ:Nat->Nat} (VT:∀ c:C,inC X c->thC θ c=c):∀ xs:List AV,inA.inAs X xs->thA.thAs θ xs=xs
 |[],_=>rfl
 |x::l,h=>by
  have h:inA X x/\inA.inAs X l:=h
  show thA θ x::thA.thAs θ l=_
  rw[zl8 VT x h.1,thA_ids VT l h.2]
theorem zk9{X:QD}:∀ {xs:List AV},inA.inAs X xs->∀ x∈xs,inA X x
 |[],_,_,hx=>by cases hx
 |y::l,h,x,hx=>by
  have h:inA X y/\inA.inAs X l:=h;rcases wab.1 hx with rfl|hx
  .exact h.1
  .exact zk9 h.2 x hx
section
variable {w:World} {ok:Nat->Prop} {ρ ρ':Nat->Option Nat} {θ:Nat->Nat} {X:QD}
theorem RC.unren(hρ:∀ b c,X b≠none->ρ (thI θ b)=some c->ρ' b=some c){x:C}{v:Value}(hi:inC X x)(h:RC w ok ρ (thC θ x) v):RC w ok ρ' x v:=by
 cases x with
 |t x=>cases h with|t h=>exact .t h
 |ptr b o=>cases h with|ptr h=>exact .ptr (hρ _ _ hi h)
 |vec b s o n=>cases h with|vec h h1 h2 h3=>exact .vec (hρ _ _ hi h) h1 h2 h3
 |fn f caps =>
  cases h with
  |fn h h1 =>
   refine .fn (by simpa using h) fun i Vb XS=>?_
   obtain⟨c,h2,h3⟩:=h1 i (by simpa using Vb) XS;simp only[Qq]at h2 h3;exact⟨c,hρ _ _ (hi _ (Qh Vb)) h2,h3⟩
theorem RC.ren(hρ:∀ b c,ρ' b=some c->ρ (thI θ b)=some c){x:C}{v:Value}(h:RC w ok ρ' x v):RC w ok ρ (thC θ x) v:=by
 cases h with
 |t h=>exact .t h
 |ptr h=>exact .ptr (hρ _ _ h)
 |vec h h1 h2 h3=>exact .vec (hρ _ _ h) h1 h2 h3
 |fn h h1 =>
  refine .fn (by simpa using h) fun i Vb XS=>?_
  simp only[Qm]at Vb;obtain⟨c,h2,h3⟩:=h1 i Vb XS;simp only[Qq];exact⟨c,hρ _ _ h2,h3⟩
theorem RA.unren'(hρ:∀ b c,X b≠none->ρ (thI θ b)=some c->ρ' b=some c):∀ (x:AV) (v:Value),inA X x->RA w ok ρ (thA θ x) v->RA w ok ρ' x v
 |.tup xs,v,hi,h=>by
  have e:thA θ (.tup xs) = .tup (xs.map (thA θ)):=by show AV.tup _=_;rw[zk8]
  rw[e]at h;cases h with
  |tup h h1 =>
   rw[Qm]at h;refine .tup h fun j hj Yz=>?_
   have h2:=h1 j (by simpa using hj) Yz;simp only[Qq]at h2;have:SizeOf.sizeOf xs[j]<1+SizeOf.sizeOf xs:=by have:=wcT (Qh hj);omega
   exact RA.unren' hρ _ _ (zk9 hi _ (Qh hj)) h2
 |.one c,v,hi,h=>by
  cases h with|one h=>exact .one (h.unren hρ hi)
 |.agg cs,v,hi,h=>by
  cases h with
  |agg h h1 =>
   refine .agg (by simpa using h) fun j hj Yz=>?_
   have:=h1 j (by simpa using hj) Yz;simp only[Qq]at this;exact this.unren hρ (hi _ (Qh hj))
 |.iptr cs,v,hi,h=>by
  cases h with|iptr h1 h2 h3=>exact .iptr h1 h2 h3
 |.junk,v,hi,h=>by
  exact .junk
termination_by x=>SizeOf.sizeOf x
theorem RA.unren(hρ:∀ b c,X b≠none->ρ (thI θ b)=some c->ρ' b=some c){x:AV}{v:Value}(hi:inA X x)(h:RA w ok ρ (thA θ x) v):RA w ok ρ' x v:=RA.unren' hρ x v hi h
theorem RA.ren'(hρ:∀ b c,ρ' b=some c->ρ (thI θ b)=some c):∀ (x:AV) (v:Value),RA w ok ρ' x v->RA w ok ρ (thA θ x) v
 |.tup xs,v,h=>by
  have e:thA θ (.tup xs) = .tup (xs.map (thA θ)):=by show AV.tup _=_;rw[zk8]
  rw[e];cases h with
  |tup h h1 =>
   refine .tup (by rw[Qm];exact h) fun j hj Yz=>?_
   simp only[Qm]at hj;simp only[Qq];have:SizeOf.sizeOf xs[j]<1+SizeOf.sizeOf xs:=by have:=wcT (Qh hj);omega
   exact RA.ren' hρ _ _ (h1 j hj Yz)
 |.one c,v,h=>by
  cases h with|one h=>exact .one (h.ren hρ)
 |.agg cs,v,h=>by
  cases h with
  |agg h h1 =>
   refine .agg (by simpa using h) fun j hj Yz=>?_
   simp only[Qm]at hj;simp only[Qq];exact(h1 j hj Yz).ren hρ
 |.iptr cs,v,h=>by
  cases h with|iptr h1 h2 h3=>exact .iptr h1 h2 h3
 |.junk,v,h=>by
  exact .junk
termination_by x=>SizeOf.sizeOf x
theorem RA.ren(hρ:∀ b c,ρ' b=some c->ρ (thI θ b)=some c){x:AV}{v:Value}(h:RA w ok ρ' x v):RA w ok ρ (thA θ x) v:=RA.ren' hρ x v h
end
theorem Zf.ren{P:Program}{f:FuncId}{args:List AV}{X X' H H':QD}{r:AV}(θ:Nat->Nat)(h:Zf P f args X r X')
  (Vu:∀ b,b<PIN->X b=none) (Vw:∀ b,X' b=none↔X b=none)
  (Y8:∀ b b',X b≠none->X b'≠none->thI θ b=thI θ b'->b=b')
  (YW:∀ b cs,X b=some cs->∀ c∈cs,inC X c) (YB:∀ x∈args,inA X x)
  (hH:∀ b cs,X b=some cs->H (thI θ b)=some (cs.map (thC θ)))
  (X5:∀ b cs,X' b=some cs->H' (thI θ b)=some (cs.map (thC θ))) (XF:∀ b,(∀ b',X b'≠none->thI θ b'≠b)->H' b=H b) :
  Zf P f (args.map (thA θ)) H (thA θ r) H':=by
 refine⟨h.1,fun ρ ok w vs Uq hv=>?_⟩
 let ρX:Nat->Option Nat:=fun b=>match X b with|none=>none|some _=>ρ (thI θ b)
 have hρX:∀ b c,X b≠none->ρ (thI θ b)=some c->ρX b=some c:=fun b c hb hc=>by
  simp only[ρX];cases hx:X b with
  |none=>exact Qo hx hb
  |some _=>exact hc
 have hρX2:∀ b c,ρX b=some c->X b≠none/\ρ (thI θ b)=some c:=fun b c hc=>by
  simp only[ρX]at hc;cases hx:X b with
  |none=>rw[hx]at hc;cases hc
  |some _=>rw[hx]at hc;exact⟨by simp,hc⟩
 have GN:HR ρX ok X w:=by
  refine⟨fun b cs hb=>?_,fun b hb=>by simp only[ρX,hb],fun b b' c hb hb'=>?_,fun n hn=>⟨(Uq.okR n hn).1,fun b hb=>(Uq.okR n hn).2 _ (hρX2 b n hb).2⟩⟩
  .obtain⟨c,arr,el,h1,h2,h3,h4⟩:=Uq.heap _ _ (hH b cs hb)
   refine⟨c,arr,el,hρX b c (by rw[hb];simp) h1,h2,by simpa using h3,fun j hj Yz=>?_⟩;have:=h4 j (by simpa using hj) Yz;simp only[Qq]at this;exact this.unren hρX (YW b cs hb _ (Qh hj))
  .obtain⟨k1,k2⟩:=hρX2 b c hb
   obtain⟨k3,k4⟩:=hρX2 b' c hb';exact Y8 b b' k1 k3 (Uq.inj _ _ c k2 k4)
 have FH:zaH w ok ρX args vs:=by
  refine⟨by rw[hv.1];simp,fun i hi Y6=>?_⟩;have:=hv.2 i (by simpa using hi) Y6;simp only[Qq]at this;exact this.unren hρX (YB _ (Qh hi))
 refine(h.2 ρX ok w vs GN FH).mono ?_;rintro e w' ⟨v,ρ',ok',rfl,hr,Wh,hg,Xk⟩;have hρ':∀ b c,ρ' b=some c->X b≠none/\ρ (thI θ b)=some c:=fun b c hc=>by
  have hb:X b≠none:=by
   intro hb;have:=Wh.dom b ((Vw b).2 hb);rw[this]at hc;cases hc
  obtain⟨cs,YL⟩:=wby.1 hb;obtain⟨c1,_,_,h1,_⟩:=GN.heap b cs YL;have e:c=c1:=by
   have:=Xk b c1 h1;rw[hc]at this;exact wa0 this
  exact⟨hb,by rw[e];exact(hρX2 b c1 h1).2⟩
 have Oc:∀ b n,ρX b=some n->n<w.heap.size:=fun b n hb=>Yb (σ:=⟨0,fun _=>.junk,X⟩) GN hb
 have hk:zai ok w w':=fun n hn=>hg.same n (Uq.okR n hn).1 fun b hb=>(Uq.okR n hn).2 _ (hρX2 b n hb).2
 have DY:∀ n,ok' n->ok n\/w.heap.size<=n:=fun n hn=>by
  rcases hg.down n hn with h1|⟨b',h1⟩|h1
  .exact .inl h1
  .exact Qo (Xk b' n h1) ((Wh.okR n hn).2 b')
  .exact .inr h1
 refine⟨v,ρ,ok',rfl,hr.ren fun b c hc=>(hρ' b c hc).2,⟨fun b cs hb=>?_,fun b hb=>?_,Uq.inj,fun n hn=>⟨(Wh.okR n hn).1,fun b hb=>?_⟩⟩,⟨hg.size,fun n hn hb=>hg.same n hn fun b hb'=>hb _ (hρX2 b n hb').2,hg.shape,fun b n hb=>.inl ⟨b,hb⟩,hg.up,fun n hn=>?_,fun _ _=>.inl rfl,hg.env⟩,fun _ _ h=>h⟩
 .by_cases hx:∃ b',X b'≠none/\thI θ b'=b
  .obtain⟨b',hb',rfl⟩:=hx
   obtain⟨cs',VA⟩:=wby.1 (fun e=>hb' ((Vw b').1 e));rw[X5 b' cs' VA]at hb;cases hb
   obtain⟨c,arr,el,h1,h2,h3,h4⟩:=Wh.heap b' cs' VA;refine⟨c,arr,el,(hρ' b' c h1).2,h2,by simpa using h3,fun j hj Yz=>?_⟩;simp only[Qm]at hj;simp only[Qq];exact(h4 j hj Yz).ren fun b c hc=>(hρ' b c hc).2
  .rw[XF b fun b' hb' e=>hx ⟨b',hb',e⟩]at hb
   obtain⟨c,arr,el,h1,h2,h3,h4⟩:=Uq.heap b cs hb;have Y4:w'.heap[c]? = w.heap[c]?:=hg.same c (Yb (σ:=⟨0,fun _=>.junk,H⟩) Uq h1) fun b' hb'=>by
    obtain⟨k1,k2⟩:=hρX2 b' c hb';exact hx ⟨b',k1,Uq.inj _ _ c k2 h1⟩
   exact⟨c,arr,el,h1,by rw[Y4];exact h2,h3,fun j hj Yz=>(h4 j hj Yz).mono hk hg.up hg.shape fun _ _ h=>h⟩
 .by_cases hx:∃ b',X b'≠none/\thI θ b'=b
  .obtain⟨b',hb',rfl⟩:=hx
   obtain⟨cs',VA⟩:=wby.1 (fun e=>hb' ((Vw b').1 e));rw[X5 b' cs' VA]at hb;cases hb
  .rw[XF b fun b' hb' e=>hx ⟨b',hb',e⟩]at hb
   exact Uq.dom b hb
 .rcases DY n hn with h1|h1
  .exact(Uq.okR n h1).2 b hb
  .have:=Yb (σ:=⟨0,fun _=>.junk,H⟩) Uq hb;omega
 .rcases DY n hn with h1|h1
  .exact .inl h1
  .exact .inr (.inr h1)
theorem zi0{P:Program}{m:Nat}{f:FuncId}{as args:List AV}{X X' H':QD}{r:AV}{σ:St}{K:AV->St->Prop}(θ:Nat->Nat)(hm:m=1\/m=2)(h:Zf P f args X r X')(YY:as=args.map (thA θ))
  (Vu:∀ b,b<PIN->X b=none) (Vw:∀ b,X' b=none↔X b=none)
  (Y8:∀ b b',X b≠none->X b'≠none->thI θ b=thI θ b'->b=b')
  (YW:∀ b cs,X b=some cs->∀ c∈cs,inC X c) (YB:∀ x∈args,inA X x)
  (hH:∀ b cs,X b=some cs->σ.H (thI θ b)=some (cs.map (thC θ)))
  (X5:∀ b cs,X' b=some cs->H' (thI θ b)=some (cs.map (thC θ))) (XF:∀ b,(∀ b',X b'≠none->thI θ b'≠b)->H' b=σ.H b)
  (hK:K (thA θ r) (σ.withH H')):ZK P m f as σ K :=
 YY▸.inr (.inl ⟨hm,_,_,h.ren θ Vu Vw Y8 YW YB hH X5 XF,hK⟩)
def zhU(P:Program)(rs:List ResultVar)(r:AV)(X':QD)(e:Exit)(σ:St):Prop :=
 (e = .normal\/e = .ret)/\(∀ x∈rs,zal P σ x)/\zb7 P rs σ=r/\∀ b,PIN<=b->σ.H b=X' b
theorem zaq{P:Program}(hm:P.follows .mixedOrders=true){f:FuncId}{fn:Func}{c:Code}{n:Nat}{rs:List ResultVar}{args:List AV}{r:AV}{X X':QD}(Xb:∀ (as:Array Value) w,(callFunc f as).run P w = .ok (.enter f as) w)(hf:P.funcs[f]? = some fn)
  (hb:fn.body=some c) (hn:fn.ntmps=n) (UK:fn.results=rs.toArray) (hl:args.length<=n) (Vt:n<=PIN)
  (Vu:∀ b,b<PIN->X' b=none) (Vw:∀ b,X' b=none↔X b=none) (YW:∀ b cs,X' b=some cs->∀ c∈cs,inC X' c) (hr:inA X' r)
  (h:wpA P c (zhU P rs r X') (zbb n args X)):Zf P f args X r X':=by
 subst hn;have e:fn.results.toList=rs:=by rw[UK]
 subst e;refine⟨Xb,fun ρ ok w vs Uq hv=>calls_of_wp hf hb (Code.wp_mono ?_ (zdD hm c _ _ ρ ok _ w (zdP Uq hv (by rw[hv.1];exact hl) Vt) h))⟩;rintro e a w' ⟨σ,ρ',ok',⟨he,YX,Ve,hX⟩,s,g⟩;obtain⟨v,r1,r2⟩:=zdv s YX;rw[Ve]at r2
 let ρ2:Nat->Option Nat:=fun b=>if PIN<=b then ρ' b else none
 have hρ2:∀ b c,ρ2 b=some c->PIN<=b/\ρ' b=some c:=fun b c hc=>by
  simp only[ρ2]at hc;split at hc
  .exact⟨‹_›,hc⟩
  .cases hc
 have Vh:∀ b,X' b≠none->PIN<=b:=fun b hb=>by
  rcases was b PIN with h|h
  .exact Qo (Vu b h) hb
  .exact h
 have US:∀ b c,X' b≠none->ρ' (thI (fun k=>PIN+k) b)=some c->ρ2 b=some c:=fun b c hb hc=>by
  have hp:=Vh b hb;have:thI (fun k=>PIN+k) b=b:=by show PIN+(b-PIN)=b;omega
  rw[this]at hc;simp only[ρ2,hp,if_true];exact hc
 have Jm:∀ c:C,inC X' c->thC (fun k=>PIN+k) c=c:=fun c hc=>by
  have VT:∀ b,X' b≠none->thI (fun k=>PIN+k) b=b:=fun b hb=>by have:=Vh b hb;show PIN+(b-PIN)=b;omega
  cases c with
  |t x=>rfl
  |ptr b o=>show C.ptr _ o=_;rw[VT b hc]
  |vec b s o n=>show C.vec _ s o n=_;rw[VT b hc]
  |fn f caps =>
   show C.fn f _=_;congr 1;rw[wau (g:=id) fun p hp=>by rw[VT p.1 (hc p hp)];rfl,wb0]
 have NJ:thA (fun k=>PIN+k) r=r:=zl8 Jm r hr;have Xk:∀ b c,ρ b=some c->ρ2 b=some c:=fun b c hc=>by
  have Lh:X b≠none:=fun e=>by rw[Uq.dom b e]at hc;cases hc
  have hb':X' b≠none:=fun e=>Lh ((Vw b).1 e)
  have hp:=Vh b hb';obtain⟨cs,YL⟩:=wby.1 hb';obtain⟨c',_,_,h1,_⟩:=s.heap b cs (by rw[hX b hp];exact YL);rcases g.pin b hp with h2|h2
  .simp only[ρ2,hp,if_true];rw[h2];exact hc
  .rw[h2]at h1;cases h1
 have Ur:∀ n,zbe ok' (fun b=>if PIN<=b then none else ρ' b) n->n<w'.heap.size/\∀ b,ρ2 b≠some n:=fun n hn=>by
  rcases hn with hn|⟨b,hb⟩
  .exact⟨(s.okR n hn).1,fun b hb=>(s.okR n hn).2 b (hρ2 b n hb).2⟩
  .have WK:¬PIN<=b/\ρ' b=some n:=by
    by_cases hp:PIN<=b
    .simp only[hp,if_true]at hb;cases hb
    .simp only[hp,if_false]at hb;exact⟨hp,hb⟩
   exact⟨Yb s.toHR WK.2,fun b' hb'=>by
    obtain⟨k1,k2⟩:=hρ2 b' n hb';have:=s.inj _ _ n WK.2 k2;omega⟩
 have VF:∀ n,ok' n->zbe ok' (fun b=>if PIN<=b then none else ρ' b) n:=fun n hn=>.inl hn
 have Y5:a.defers=[]/\∃ v,(results fn a.tmps).run P w' = .ok v w'/\∃ v' ρ'' ok'',Ending.returned v = .returned v'/\RA w' ok'' ρ'' r v'/\HR ρ'' ok'' X' w'/\Goes ρ ok w ρ'' ok'' w'/\∀ b c,ρ b=some c->ρ'' b=some c:=by
  refine⟨s.defers,v,r1,v,ρ2,zbe ok' (fun b=>if PIN<=b then none else ρ' b),rfl,?_,⟨fun b cs hb=>?_,fun b hb=>?_,fun b b' c hb hb'=>s.inj b b' c (hρ2 b c hb).2 (hρ2 b' c hb').2,Ur⟩,⟨g.size,g.same,g.shape,fun b n hb=>g.img b n (hρ2 b n hb).2,fun n hn=>.inl (g.up n hn),fun n hn=>?_,fun b hp=>?_,g.env⟩,Xk⟩
  .have h1:RA w' ok' ρ' (thA (fun k=>PIN+k) r) v:=by rw[NJ];exact r2
   exact(h1.unren (X:=X') US hr).mono (fun _ _=>rfl) VF (fun _ _ _ h=>h) fun _ _ h=>h
  .have hp:=Vh b (by rw[hb];simp)
   obtain⟨c,arr,el,h1,h2,h3,h4⟩:=s.heap b cs (by rw[hX b hp];exact hb);refine⟨c,arr,el,by simp only[ρ2,hp,if_true];exact h1,h2,h3,fun j hj Yz=>?_⟩;have Xw:=YW b cs hb _ (Qh hj);have h5:RC w' ok' ρ' (thC (fun k=>PIN+k) cs[j]) arr[j]:=by rw[Jm _ Xw];exact h4 j hj Yz
   exact(h5.unren (X:=X') US Xw).mono (fun _ _=>rfl) VF (fun _ _ _ h=>h) fun _ _ h=>h
  .by_cases hp:PIN<=b
   .have:=s.dom b (by rw[hX b hp];exact hb)
    simp only[ρ2,hp,if_true];exact this
   .simp only[ρ2,hp,if_false]
  .rcases hn with hn|⟨b,hb⟩
   .rcases g.down n hn with h1|⟨b',h1⟩|h1
    .exact .inl h1
    .exact .inr (.inl ⟨b',h1⟩)
    .exact .inr (.inr h1)
   .have WK:¬PIN<=b/\ρ' b=some n:=by
     by_cases hp:PIN<=b
     .simp only[hp,if_true]at hb;cases hb
     .simp only[hp,if_false]at hb;exact⟨hp,hb⟩
    rcases g.img b n WK.2 with⟨b',h1⟩|h1
    .exact .inr (.inl ⟨b',h1⟩)
    .exact .inr (.inr h1)
  .have h1:=g.pin b hp
   simp only[ρ2,hp,if_true];exact h1
 rcases he with rfl|rfl<;>exact Y5
end Go.Abs
