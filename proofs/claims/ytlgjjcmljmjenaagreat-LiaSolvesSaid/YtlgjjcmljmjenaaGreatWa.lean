/- At every input the call answers true and leaves its arguments as they were; no conditions. -/
import Derived.Test.YtlgjjcmljmjenaaGreatPa
import Derived.Test.YtlgjjcmljmjenaaGreatNa
import Derived.Test.YtlgjjcmljmjenaaGreatUc
import Derived.Test.YtlgjjcmljmjenaaGreatNb
import Derived.Test.YtlgjjcmljmjenaaGreatDb
import Derived.Test.YtlgjjcmljmjenaaGreatCc
import Derived.Test.YtlgjjcmljmjenaaGreatCd
import Derived.Test.YtlgjjcmljmjenaaGreatHa
import Derived.Test.YtlgjjcmljmjenaaGreatAk
set_option linter.unusedSimpArgs false
set_option linter.unusedVariables false
set_option maxRecDepth 100000
set_option maxHeartbeats 16000000
namespace Go.Proofs.YtlgjjcmljmjenaaGreat
open Go Go.Abs Go.Proofs.Tryz
def Sat(ls:List Fm)(p:Nat->Int):Prop:=∀ f∈ls,atF f p<=0
structure Fv(n C K:Nat)(f:Fm):Prop where
 wf:WF f
 lt:∀ m∈f.1,m.1<n
 co:∀ m∈f.1,lN m.2<=C
 ko:lN f.2<=K
theorem zft:∀ {l:List Mn} {k n:Nat},WM k l->(∀ m∈l,m.1<n)->l.length<=n-k
 |[],_,_,_,_=>Qk _
 |m::l,k,n,w,h=>by
  have h1:=zft w.2.2 fun m hm=>h m (waj _ hm)
  have h2:=h m wam;have h3:=w.1;show l.length+1<=n-k;omega
theorem Fv.bd{n C K L:Nat}{f:Fm}(h:Fv n C K f)(hn:n<=1000000)(hC:C<=L)(hK:K<=L):Bd n L f :=
 ⟨by have:=zft h.wf h.lt;omega,fun m hm=>⟨by have:=h.lt m hm;omega,Qn (h.co m hm) hC⟩,Qn h.ko hK⟩
theorem Fv.mono{n C K n' C' K':Nat}{f:Fm}(h:Fv n C K f)(hn:n<=n')(hC:C<=C')(hK:K<=K'):Fv n' C' K' f :=
 ⟨h.wf,fun m hm=>wbf (h.lt m hm) hn,fun m hm=>Qn (h.co m hm) hC,Qn h.ko hK⟩
theorem Sat.cons{f:Fm}{ls:List Fm}{p:Nat->Int}:Sat (f::ls) p↔atF f p<=0/\Sat ls p:=Q2
theorem Sat.nil{p:Nat->Int}:Sat [] p:=fun f hf=>by cases hf
theorem Sat.app{a b:List Fm}{p:Nat->Int}:Sat (a++b) p↔Sat a p/\Sat b p:=List.forall_mem_append
def zaJ:List Fm->Fm->List Fm
 |[],c=>[c]
 |o::l,c=>if o.1=c.1 then(if o.2<c.2 then c::l else o::l)else o::zaJ l c
theorem znH{c:Fm}:∀ {out:List Fm},(∀ q∈out,¬q.1=c.1)->zaJ out c=out++[c]
 |[],_=>rfl
 |o::l,h=>by
  rw[zaJ,Qb (h o wam),znH fun q hq=>h q (waj _ hq)];rfl
theorem znI{c:Fm}:∀ {out:List Fm} {k:Nat} (hk:k<out.length),out[k].1=c.1->(∀ q∈out.take k,¬q.1=c.1)->zaJ out c=if out[k].2<c.2 then out.set k c else out
 |o::l,0,hk,h,_=>by
  have h:o.1=c.1:=h;rw[zaJ,Qc h];rfl
 |o::l,k+1,hk,h,hq=>by
  rw[zaJ,Qb (hq o (by rw[wcU];exact wam)),znI (k:=k) (Nat.lt_of_succ_lt_succ hk) h fun q hm=>hq q (by rw[wcU];exact waj _ hm)];have RN:k<l.length:=Nat.lt_of_succ_lt_succ hk;show _=if(l[k]'RN).2<c.2 then o::l.set k c else o::l
  split<;>rfl
theorem zk4{c:Fm}:∀ {out:List Fm},∀ f∈zaJ out c,f=c\/f∈out
 |[],f,h=>.inl (Qr.1 h)
 |o::l,f,h=>by
  rw[zaJ]at h;split at h
  .split at h
   .rcases wab.1 h with h|h
    .exact .inl h
    .exact .inr (waj _ h)
   .exact .inr h
  .rcases wab.1 h with h|h
   .exact .inr (h▸wam)
   .rcases zk4 f h with h|h
    .exact .inl h
    .exact .inr (waj _ h)
theorem zoV{c:Fm}:∀ {out:List Fm},(zaJ out c).length<=out.length+1
 |[]=>Qd _
 |o::l=>by
  rw[zaJ];have:=zoV (c:=c) (out:=l);split
  .split<;>simp
  .simp only[Qe];omega
theorem zoW{c:Fm}{p:Nat->Int}:∀ {out:List Fm},Sat (zaJ out c) p↔Sat out p/\atF c p<=0
 |[]=>by
  rw[zaJ,Sat.cons];exact⟨fun h=>⟨Sat.nil,h.1⟩,fun h=>⟨h.2,Sat.nil⟩⟩
 |o::l=>by
  rw[zaJ];have ih:=zoW (c:=c) (p:=p) (out:=l);split
  .rename_i e
   have h1:atF o p=o.2+atM c.1 p:=by rw[atF,e]
   have h2:atF c p=c.2+atM c.1 p:=rfl;split
   .rw[Sat.cons,Sat.cons]
    exact⟨fun h=>⟨⟨by have:=h.1;omega,h.2⟩,h.1⟩,fun h=>⟨h.2,h.1.2⟩⟩
   .rw[Sat.cons]
    exact⟨fun h=>⟨h,by have:=h.1;omega⟩,fun h=>h.1⟩
  .rw[Sat.cons,Sat.cons,ih,and_assoc]
theorem zoX{c:Fm}:∀ {out:List Fm},∃ o∈zaJ out c,o.1=c.1/\c.2<=o.2
 |[]=>⟨c,Qr.2 rfl,rfl,wbi _⟩
 |o::l=>by
  rw[zaJ];split
  .rename_i e
   split
   .exact⟨c,wam,rfl,wbi _⟩
   .exact⟨o,wam,e,by omega⟩
  .obtain⟨x,h1,h2⟩:=zoX (c:=c) (out:=l)
   exact⟨x,waj _ h1,h2⟩
theorem zoY{c x:Fm}:∀ {out:List Fm},x∈out->∃ o∈zaJ out c,o.1=x.1/\x.2<=o.2
 |o::l,hx=>by
  rw[zaJ];split
  .rename_i e
   split
   .rcases wab.1 hx with h|h
    .exact⟨c,wam,by rw[h,e],by rw[h];omega⟩
    .exact⟨x,waj _ h,rfl,wbi _⟩
   .exact⟨x,hx,rfl,wbi _⟩
  .rcases wab.1 hx with h|h
   .exact⟨o,wam,by rw[h],by rw[h];exact wbi _⟩
   .obtain⟨y,h1,h2⟩:=zoY (c:=c) h
    exact⟨y,waj _ h1,h2⟩
def zds(out:List Fm)(a:Fm):List Fm:=if clF a=1 then zaJ out (ZQ a)else out
def Zr(ls:List Fm):List Fm:=ls.foldl zds []
theorem zfV(ls:List Fm)(a:Fm):Zr (ls++[a])=zds (Zr ls) a:=by unfold Zr;rw[wcd];rfl
def okN(ls:List Fm):Prop:=∀ a∈ls,¬clF a=3
theorem zk5{P:Fm->Prop}{ls:List Fm}(h:∀ a∈ls,clF a=1->P (ZQ a)):∀ {i:Nat},∀ f∈Zr (ls.take i),P f:=by
 intro i
 induction i with
 |zero=>intro f hf;cases hf
 |succ i ih =>
  intro f hf;by_cases hi:i<ls.length
  .rw[Zd hi,zfV]at hf
   unfold zds at hf;split at hf
   .rename_i hc
    rcases zk4 f hf with rfl|hf
    .exact h _ (Qh hi) hc
    .exact ih f hf
   .exact ih f hf
  .rw[waL (by omega)]at hf
   rw[waL (by omega)]at ih;exact ih f hf
theorem zk6(ls:List Fm):∀ i,(Zr (ls.take i)).length<=i
 |0=>Qd _
 |i+1=>by
  have ih:=zk6 ls i;by_cases hi:i<ls.length
  .rw[Zd hi,zfV]
   unfold zds;split
   .have:=zoV (c:=ZQ ls[i]) (out:=Zr (ls.take i));omega
   .omega
  .rw[waL (by omega)]at ih ⊢;omega
theorem znJ(ls:List Fm):(Zr ls).length<=ls.length:=by
 have:=zk6 ls ls.length
 rwa[Q1]at this
theorem ziY{ls:List Fm}(hw:∀ a∈ls,WF a)(ho:okN ls)(p:Nat->Int):Sat (Zr ls) p↔Sat ls p:=by
 have key:∀ i,i<=ls.length->(Sat (Zr (ls.take i)) p↔Sat (ls.take i) p):=fun i=>by
  induction i with
  |zero=>intro _;exact⟨fun _=>Sat.nil,fun _=>Sat.nil⟩
  |succ i ih =>
   intro hi;rw[Zd (by omega),zfV,Sat.app,<-ih (by omega)];have h1:=hw _ (Qh (show i<ls.length by omega));have h2:=ho _ (Qh (show i<ls.length by omega));generalize ls[i]=a at *
   have h3:Sat [a] p↔atF a p<=0:=⟨fun h=>h a (Qr.2 rfl),fun h f hf=>by rw[Qr.1 hf];exact h⟩
   rw[h3];unfold zds;split
   .rw[zoW,norm_holds h1]
   .rename_i hc
    rcases cl3 a with h|h|h
    .exact Qo h hc
    .exact⟨fun h'=>⟨h',h.2 p⟩,fun h'=>h'.1⟩
    .exact Qo h.1 h2
 have:=key ls.length (Qd _)
 rwa[Q1]at this
theorem zqa{ls:List Fm}{p:Nat->Int}(h:Sat ls p):okN ls:=fun a ha hc=>by
 rcases cl3 a with h1|h1|h1
 .omega
 .omega
 .exact h1.2 p (h a ha)
theorem zng{ls:List Fm}{a:Fm}(ha:a∈ls)(hc:clF a=1):∃ o∈Zr ls,o.1=(ZQ a).1/\(ZQ a).2<=o.2:=by
 have key:∀ i,i<=ls.length->∀ j (hj:j<i) (h:j<ls.length),clF ls[j]=1->∃ o∈Zr (ls.take i),o.1=(ZQ ls[j]).1/\(ZQ ls[j]).2<=o.2:=fun i=>by
  induction i with
  |zero=>intro _ j hj;omega
  |succ i ih =>
   intro hi j hj Ky Ob;rw[Zd (by omega),zfV];by_cases e:j=i
   .subst e
    unfold zds;rw[Qc Ob];exact zoX
   .obtain⟨o,h1,h2,h3⟩:=ih (by omega) j (by omega) Ky Ob
    unfold zds;split
    .obtain⟨y,h4,h5,h6⟩:=zoY (c:=ZQ ls[i]) h1
     exact⟨y,h4,h5.trans h2,Int.le_trans h3 h6⟩
    .exact⟨o,h1,h2,h3⟩
 obtain⟨j,hj,rfl⟩:=waK.1 ha;have:=key ls.length (Qd _) j hj hj hc
 rwa[Q1]at this
def Yi(a b:Fm):Prop:=((a.1,0):Fm)=scF (b.1,0) (-1)
instance (a b:Fm):Decidable (Yi a b):=by unfold Yi;exact inferInstance
def evJ(a:Fm):List Fm->List Fm
 |[]=>[]
 |b::l=>if Yi a b/\a.2+b.2=0 then a::evJ a l else evJ a l
theorem zoZ(a b:Fm):∀ l:List Fm,evJ a (l++[b])=evJ a l++(if Yi a b/\a.2+b.2=0 then[a]else[])
 |[]=>by
  show evJ a [b]=_;rw[evJ,evJ];split<;>rfl
 |c::l=>by
  rw[wb5,evJ,evJ,zoZ a b l];split<;>rfl
theorem zjm{a:Fm}:∀ {l:List Fm},∀ e∈evJ a l,e=a/\∃ b∈l,Yi a b/\a.2+b.2=0
 |b::l,e,h=>by
  rw[evJ]at h;split at h
  .rename_i hc
   rcases wab.1 h with h|h
   .exact⟨h,b,wam,hc⟩
   .obtain⟨h1,c,h2,h3⟩:=zjm e h
    exact⟨h1,c,waj _ h2,h3⟩
  .obtain⟨h1,c,h2,h3⟩:=zjm e h
   exact⟨h1,c,waj _ h2,h3⟩
theorem zq8{a b:Fm}:∀ {l:List Fm},b∈l->Yi a b->a.2+b.2=0->evJ a l≠[]
 |c::l,hb,h1,h2=>by
  rw[evJ];split
  .simp
  .rename_i hc
   rcases wab.1 hb with h|h
   .subst h;exact(hc ⟨h1,h2⟩).elim
   .exact zq8 h h1 h2
def evI(l:List Fm):Nat->List Fm
 |0=>[]
 |i+1=>evI l i++evJ (l.getD i ([],0)) (l.take i)
theorem zlD{l:List Fm}:∀ {i:Nat},i<=l.length->∀ e∈evI l i,e∈l/\∃ b∈l,Yi e b/\e.2+b.2=0
 |0,_,e,h=>by cases h
 |i+1,hi,e,h=>by
  rcases wan.1 h with h|h
  .exact zlD (by omega) e h
  .have hg:l.getD i ([],0)=l[i]:=by rw[waC,waa (by omega)];rfl
   obtain⟨h1,b,h2,h3⟩:=zjm e h;rw[<-h1]at h3;rw[hg]at h1;exact⟨by rw[h1];exact Qh _,b,waQ h2,h3⟩
theorem zl7{l:List Fm}{i j:Nat}(hj:j<i)(hi:i<l.length)(h1:Yi l[i] (l[j]'(by omega)))(h2:l[i].2+(l[j]'(by omega)).2=0):∀ {m:Nat},i<m->evI l m≠[]
 |m+1,hm=>by
  rw[evI];by_cases e:i=m
  .have hg:l.getD i ([],0)=l[i]:=by rw[waC,waa hi];rfl
   rw[<-e,hg];have:=zq8 (a:=l[i]) (b:=l[j]'(by omega)) (l:=l.take i) (waK.2 ⟨j,by simp;omega,by simp⟩) h1 h2;simp[this]
  .have:=zl7 hj hi h1 h2 (m:=m) (by omega)
   simp[this]
def okE(l:List Fm):Prop:=∀ i j (hj:j<i) (hi:i<l.length),Yi l[i] (l[j]'(by omega))->l[i].2+(l[j]'(by omega)).2<=0
theorem zqb{a b:Fm}(h:Yi a b)(p:Nat->Int):atF a p+atF b p=a.2+b.2:=by
 have h1:atF ((a.1,0):Fm) p=atF (scF (b.1,0) (-1)) p:=by rw[h]
 rw[zcQ]at h1;have e1:atF ((a.1,0):Fm) p=atM a.1 p:=wb3 _;have e2:atF ((b.1,0):Fm) p=atM b.1 p:=wb3 _;rw[e1,e2]at h1;have e3:atF a p=a.2+atM a.1 p:=rfl;have e4:atF b p=b.2+atM b.1 p:=rfl;omega
theorem zxB{l:List Fm}{p:Nat->Int}(h:Sat l p):okE l:=fun i j hj hi ht=>by
 have h1:=zqb ht p;have h2:=h _ (Qh hi);have h3:=h _ (Qh (show j<l.length by omega));omega
theorem zuf{l:List Fm}{p:Nat->Int}(h:Sat l p){i:Nat}(hi:i<=l.length){e:Fm}(he:e∈evI l i):atF e p=0:=by
 obtain⟨h1,b,h2,h3,h4⟩:=zlD hi e he;have h5:=zqb h3 p;have h6:=h e h1;have h7:=h b h2;omega
def QU(ls:List Fm)(v:Nat):List Fm:=ls.filter fun f=>decide (coM f.1 v<0)
def QR(ls:List Fm)(v:Nat):List Fm:=ls.filter fun f=>decide (0<coM f.1 v)
def ZF(ls:List Fm)(v:Nat):List Fm:=ls.filter fun f=>decide (coM f.1 v=0)
theorem zbw{ls:List Fm}{v:Nat}{f:Fm}:f∈QU ls v↔f∈ls/\coM f.1 v<0:=by unfold QU;rw[wcc,way]
theorem zcc{ls:List Fm}{v:Nat}{f:Fm}:f∈QR ls v↔f∈ls/\0<coM f.1 v:=by unfold QR;rw[wcc,way]
theorem zfQ{ls:List Fm}{v:Nat}{f:Fm}:f∈ZF ls v↔f∈ls/\coM f.1 v=0:=by unfold ZF;rw[wcc,way]
theorem zkt(ls:List Fm)(v:Nat):(QU ls v).length+(QR ls v).length+(ZF ls v).length=ls.length:=by
 induction ls with
 |nil=>rfl
 |cons f l ih =>
  unfold QU QR ZF at *
  rw[wcF,wcF,wcF];rcases wbH (coM f.1 v) 0 with c|c|c
  .rw[Qc (by simpa using c),Qb (by simp;omega),Qb (by simp;omega)];simp only[Qe];omega
  .rw[Qb (by simp;omega),Qb (by simp;omega),Qc (by simpa using c)];simp only[Qe];omega
  .rw[Qb (by simp;omega),Qc (by simpa using c),Qb (by simp;omega)];simp only[Qe];omega
theorem ztL{ls:List Fm}{v:Nat}{p:Nat->Int}(h1:Sat (QU ls v) p)(h2:Sat (QR ls v) p)(h3:Sat (ZF ls v) p):Sat ls p:=fun f hf=>by
 rcases wbH (coM f.1 v) 0 with c|c|c
 .exact h1 f (zbw.2 ⟨hf,c⟩)
 .exact h3 f (zfQ.2 ⟨hf,c⟩)
 .exact h2 f (zcc.2 ⟨hf,c⟩)
def sh1(d:Bool)(v:Nat)(l h:Fm):Fm :=
 let c:=QP (scF l (coM h.1 v)) (scF h (-(coM l.1 v)))
 if d=true then QP c (Ze ((-(coM l.1 v)-1)*(coM h.1 v-1)))else c
def shV(d:Bool)(v:Nat)(low V6 rest:List Fm):List Fm:=rest++low.flatMap fun l=>V6.map (sh1 d v l)
theorem zqI(d:Bool)(v:Nat)(l h:Fm)(p:Nat->Int):atF (sh1 d v l h) p=atF l p*coM h.1 v+atF h p * -(coM l.1 v)+(if d=true then(-(coM l.1 v)-1)*(coM h.1 v-1)else 0):=by
 unfold sh1;cases d
 .show atF (QP _ _) p=_+0
  rw[zdR,zcQ,zcQ];omega
 .show atF (QP (QP _ _) _) p=_
  rw[zdR,zdR,zcQ,zcQ,zfX,Qc rfl]
theorem zyl{d:Bool}{v:Nat}{l h:Fm}(hl:WF l)(hh:WF h)(j:Nat):coM (sh1 d v l h).1 j=coM h.1 v*coM l.1 j + -(coM l.1 v)*coM h.1 j:=by
 have e:coM (QP (scF l (coM h.1 v)) (scF h (-(coM l.1 v)))).1 j=coM h.1 v*coM l.1 j + -(coM l.1 v)*coM h.1 j:=by
  rw[zgo (zbC hl _) (zbC hh _),zhF,zhF,waI (coM l.1 j),waI (coM h.1 j)]
 unfold sh1;cases d
 .exact e
 .show coM (QP _ _).1 j=_
  rw[zgo (zgn (zbC hl _) (zbC hh _)) (zej _),e];show _+coM [] j=_;rw[coM,wa9]
theorem zqJ{l:List Mn}{k v:Nat}(w:WM k l)(h:coM l v≠0):∃ m∈l,m.1=v/\coM l v=m.2:=by
 induction l generalizing k with
 |nil=>exact(h rfl).elim
 |cons x l ih =>
  rw[coM]at h ⊢;split at h
  .rename_i e;exact⟨x,wam,e,by rw[Qc e]⟩
  .rename_i e
   obtain⟨m,h1,h2,h3⟩:=ih w.2.2 h;exact⟨m,waj _ h1,h2,by rw[Qb e];exact h3⟩
theorem zpE{l:List Mn}{k:Nat}(w:WM k l){m:Mn}(h:m∈l):coM l m.1=m.2:=by
 induction l generalizing k with
 |nil=>cases h
 |cons x l ih =>
  rw[coM];rcases wab.1 h with rfl|h
  .rw[Qc rfl]
  .have:=w.2.2.mem _ h
   rw[Qb (by omega)];exact ih w.2.2 h
theorem Fv.co_ge{n C K v:Nat}{f:Fm}(h:Fv n C K f)(hv:n<=v):coM f.1 v=0:=by
 by_cases e:coM f.1 v=0
 .exact e
 .obtain⟨m,h1,h2,_⟩:=zqJ h.wf e
  have:=h.lt m h1;omega
theorem Fv.lco{n C K:Nat}{f:Fm}(h:Fv n C K f)(v:Nat):lN (coM f.1 v)<=C:=by
 by_cases e:coM f.1 v=0
 .rw[e,ZI];omega
 .obtain⟨m,h1,_,h3⟩:=zqJ h.wf e
  rw[h3];exact h.co m h1
theorem Fv.add{n C K C' K' D E:Nat}{f g:Fm}(hf:Fv n C K f)(hg:Fv n C' K' g)(hD:max C C'+1<=D)(hE:max K K'+1<=E):Fv n D E (QP f g) where
 wf:=zgn hf.wf hg.wf
 lt:=fun m hm=>by
  refine zld (p:=fun m=>m.1<n) (q:=fun m=>m.1<n) (fun _ h=>h) (fun x y hx _ _=>hx) hf.lt hg.lt m hm
 co:=fun m hm=>by
  refine zld (p:=fun m=>lN m.2<=max C C') (q:=fun m=>lN m.2<=D) (fun _ h=>by omega) (fun x y hx hy _=>?_) (fun m hm=>by have:=hf.co m hm;omega) (fun m hm=>by have:=hg.co m hm;omega) m hm;have:=za6 x.2 y.2;show lN (x.2+y.2)<=D;omega
 ko:=by
  have:=za6 f.2 g.2;have h1:=hf.ko;have h2:=hg.ko;show lN (f.2+g.2)<=E;omega
theorem Fv.sc{n C K:Nat}{f:Fm}(hf:Fv n C K f){c:Int}{D:Nat}(hc:lN c<=D):Fv n (C+D) (K+D) (scF f c) where
 wf:=zbC hf.wf c
 lt:=fun m hm=>by
  unfold scF at hm;split at hm
  .cases hm
  .obtain⟨x,hx,rfl⟩:=Qp.1 hm
   exact hf.lt x hx
 co:=fun m hm=>by
  unfold scF at hm;split at hm
  .cases hm
  .obtain⟨x,hx,rfl⟩:=Qp.1 hm
   have:=ZX x.2 c;have:=hf.co x hx;show lN (x.2*c)<=_;omega
 ko:=by
  rw[k_sc];have:=ZX f.2 c;have:=hf.ko;omega
theorem Fv.const{n C K:Nat}{k:Int}(h:lN k<=K):Fv n C K (Ze k):=⟨zej k,(fun m hm=>by cases hm),(fun m hm=>by cases hm),h⟩
theorem Fv.var{n v:Nat}(h:v<n):Fv n 1 0 (Z7 v):=⟨zjo v,fun m hm=>by rw[Qr.1 hm];exact h,fun m hm=>by rw[Qr.1 hm];exact zcL,by show lN 0<=0;rw[ZI];omega⟩
theorem Fv.zero{n C K:Nat}:Fv n C K ([],0):=⟨trivial,(fun m hm=>by cases hm),(fun m hm=>by cases hm),by show lN 0<=K;rw[ZI];omega⟩
theorem zym{n C K:Nat}{d:Bool}{v:Nat}{l h:Fm}(hl:Fv n C K l)(hh:Fv n C K h):Fv n (2*C+2) (K+2*C+5) (sh1 d v l h):=by
 have h1:=hl.sc (c:=coM h.1 v) (hh.lco v);have h2:=hh.sc (c:=-(coM l.1 v)) (D:=C) (by rw[Zs];exact hl.lco v);have h3:Fv n (2*C+1) (K+C+1) (QP (scF l (coM h.1 v)) (scF h (-(coM l.1 v)))):=h1.add h2 (by omega) (by omega);unfold sh1;cases d
 .exact h3.mono (Qd _) (by omega) (by omega)
 .refine h3.add (C':=0) (K':=2*C+2) (.const ?_) (by omega) (by omega)
  have a1:=zey (-(coM l.1 v)) 1;have a2:=zey (coM h.1 v) 1;have a3:=ZX (-(coM l.1 v)-1) (coM h.1 v-1);have a4:=hl.lco v;have a5:=hh.lco v;have a6:=zcL;rw[Zs]at a1;by_cases c0:C=0
  .subst c0
   have b1:coM l.1 v=0:=by
    by_cases e:coM l.1 v=0
    .exact e
    .exfalso
     have:=zbU (coM l.1 v);rw[show lN (coM l.1 v)=0 by omega]at this;simp at this;omega
   have b2:coM h.1 v=0:=by
    by_cases e:coM h.1 v=0
    .exact e
    .exfalso
     have:=zbU (coM h.1 v);rw[show lN (coM h.1 v)=0 by omega]at this;simp at this;omega
   rw[b1,b2];exact Qn (zap (by decide)) (by omega)
  .omega
theorem zpF(d:Bool)(v:Nat)(low V6 rest:List Fm):(shV d v low V6 rest).length=rest.length+low.length*V6.length:=by
 unfold shV;rw[Qj];congr 1
 induction low with
 |nil=>simp
 |cons l low ih=>rw[List.flatMap_cons,Qj,ih,Qm,Qe,waX,wcX]
theorem zgc{d:Bool}{v:Nat}{low V6 rest:List Fm}{f:Fm}:f∈shV d v low V6 rest↔f∈rest\/∃ l∈low,∃ h∈V6,f=sh1 d v l h:=by
 unfold shV;rw[wan,List.mem_flatMap];constructor
 .rintro(h|⟨l,hl,h⟩)
  .exact .inl h
  .obtain⟨x,hx,rfl⟩:=Qp.1 h
   exact .inr ⟨l,hl,x,hx,rfl⟩
 .rintro(h|⟨l,hl,x,hx,rfl⟩)
  .exact .inl h
  .exact .inr ⟨l,hl,Qp.2 ⟨x,hx,rfl⟩⟩
def Zq(p:Nat->Int)(v:Nat)(t:Int):Nat->Int:=fun i=>if i=v then t else p i
theorem zpG{l:List Mn}{k v:Nat}(w:WM k l)(h:v<k)(p:Nat->Int)(t:Int):atM l (Zq p v t)=atM l p:=by
 induction l generalizing k with
 |nil=>rfl
 |cons m l ih =>
  have h1:=w.1;rw[atM,atM,ih w.2.2 (by omega)];unfold Zq;rw[Qb (by omega)]
theorem zwX{l:List Mn}{k v:Nat}(w:WM k l)(p:Nat->Int)(t:Int):atM l (Zq p v t)=atM l (Zq p v 0)+coM l v*t:=by
 induction l generalizing k with
 |nil=>rw[atM,atM,coM];omega
 |cons m l ih =>
  rw[atM,atM,coM];by_cases e:m.1=v
  .rw[Qc e,zpG w.2.2 (by omega),zpG w.2.2 (by omega)]
   unfold Zq;rw[Qc e,Qc e];omega
  .rw[Qb e,ih w.2.2]
   have:Zq p v t m.1=Zq p v 0 m.1:=by unfold Zq;rw[Qb e,Qb e]
   rw[this];omega
theorem zeA{f:Fm}(w:WF f)(p:Nat->Int)(v:Nat)(t:Int):atF f (Zq p v t)=atF f (Zq p v 0)+coM f.1 v*t:=by
 show f.2+atM f.1 _=f.2+atM f.1 _+_;rw[zwX w];omega
theorem zku(p:Nat->Int)(v:Nat):Zq p v (p v)=p:=by
 funext i;unfold Zq;split
 .rename_i e;rw[e]
 .rfl
def frA(v:Nat)(p:Nat->Int)(a:Fm):Int:=-(Int.fdiv (-(atF a (Zq p v 0))) (-(coM a.1 v)))
def toA(v:Nat)(p:Nat->Int)(a:Fm):Int:=Int.fdiv (-(atF a (Zq p v 0))) (coM a.1 v)
def frS(v:Nat)(p:Nat->Int)(o:Option Int)(a:Fm):Option Int:=match o with
 |none=>some (frA v p a)
 |some m=>if m<frA v p a then some (frA v p a)else some m
def toS(v:Nat)(p:Nat->Int)(o:Option Int)(a:Fm):Option Int:=match o with
 |none=>some (toA v p a)
 |some m=>if toA v p a<m then some (toA v p a)else some m
def frL(v:Nat)(p:Nat->Int)(l:List Fm):Option Int:=l.foldl (frS v p) none
def toL(v:Nat)(p:Nat->Int)(l:List Fm):Option Int:=l.foldl (toS v p) none
theorem zvl(v:Nat)(p:Nat->Int)(l:List Fm)(a:Fm):frL v p (l++[a])=frS v p (frL v p l) a:=by unfold frL;rw[wcd];rfl
theorem zvm(v:Nat)(p:Nat->Int)(l:List Fm)(a:Fm):toL v p (l++[a])=toS v p (toL v p l) a:=by unfold toL;rw[wcd];rfl
def zh2(fr to:Option Int):Int:=match fr with
 |some f=>f
 |none=>match to with|some t=>t|none=>0
def okV(fr to:Option Int):Prop:=match fr,to with
 |some f,some t=>f<=t
 |_,_=>True
theorem zel(v:Nat)(p:Nat->Int):∀ l:List Fm,match frL v p l with
  |none=>l=[]
  |some m=>(∃ a∈l,m=frA v p a)/\∀ a∈l,frA v p a<=m:=by
 have key:∀ (l:List Fm) (pre:List Fm) (o:Option Int),(match o with
  |none=>pre=[]
  |some m=>(∃ a∈pre,m=frA v p a)/\∀ a∈pre,frA v p a<=m)->match l.foldl (frS v p) o with
  |none=>pre++l=[]
  |some m=>(∃ a∈pre++l,m=frA v p a)/\∀ a∈pre++l,frA v p a<=m:=by
  intro l
  induction l with
  |nil=>intro pre o h;rw[wal];exact h
  |cons a l ih =>
   intro pre o h;have:=ih (pre++[a]) (frS v p o a) (by
    cases o with
    |none =>
     have h:pre=[]:=h;subst h;exact⟨⟨a,Qr.2 rfl,rfl⟩,fun b hb=>by rw[Qr.1 hb];exact wbi _⟩
    |some m =>
     obtain⟨⟨b,hb,e⟩,h2⟩:=h;show match (if m<frA v p a then some (frA v p a)else some m)with|none=>_|some m=>_
     split
     .rename_i Yw
      split at Yw
      .cases Yw
      .cases Yw
     .rename_i m' hm
      split at hm
      .rename_i c
       cases hm
       refine⟨⟨a,wbB _ (Qr.2 rfl),rfl⟩,fun x hx=>?_⟩;rcases wan.1 hx with hx|hx
       .have:=h2 x hx;omega
       .rw[Qr.1 hx];exact wbi _
      .rename_i c
       cases hm
       refine⟨⟨b,wbR _ hb,e⟩,fun x hx=>?_⟩;rcases wan.1 hx with hx|hx
       .exact h2 x hx
       .rw[Qr.1 hx];omega)
   rw[waM]at this;exact this
 intro l;exact key l [] none rfl
theorem zem(v:Nat)(p:Nat->Int):∀ l:List Fm,match toL v p l with
  |none=>l=[]
  |some m=>(∃ a∈l,m=toA v p a)/\∀ a∈l,m<=toA v p a:=by
 have key:∀ (l:List Fm) (pre:List Fm) (o:Option Int),(match o with
  |none=>pre=[]
  |some m=>(∃ a∈pre,m=toA v p a)/\∀ a∈pre,m<=toA v p a)->match l.foldl (toS v p) o with
  |none=>pre++l=[]
  |some m=>(∃ a∈pre++l,m=toA v p a)/\∀ a∈pre++l,m<=toA v p a:=by
  intro l
  induction l with
  |nil=>intro pre o h;rw[wal];exact h
  |cons a l ih =>
   intro pre o h;have:=ih (pre++[a]) (toS v p o a) (by
    cases o with
    |none =>
     have h:pre=[]:=h;subst h;exact⟨⟨a,Qr.2 rfl,rfl⟩,fun b hb=>by rw[Qr.1 hb];exact wbi _⟩
    |some m =>
     obtain⟨⟨b,hb,e⟩,h2⟩:=h;show match (if toA v p a<m then some (toA v p a)else some m)with|none=>_|some m=>_
     split
     .rename_i Yw
      split at Yw
      .cases Yw
      .cases Yw
     .rename_i m' hm
      split at hm
      .rename_i c
       cases hm
       refine⟨⟨a,wbB _ (Qr.2 rfl),rfl⟩,fun x hx=>?_⟩;rcases wan.1 hx with hx|hx
       .have:=h2 x hx;omega
       .rw[Qr.1 hx];exact wbi _
      .rename_i c
       cases hm
       refine⟨⟨b,wbR _ hb,e⟩,fun x hx=>?_⟩;rcases wan.1 hx with hx|hx
       .exact h2 x hx
       .rw[Qr.1 hx];omega)
   rw[waM]at this;exact this
 intro l;exact key l [] none rfl
theorem zeT{x c:Int}(hc:0<c):c*Int.fdiv x c<=x/\x<c*Int.fdiv x c+c:=by
 have h1:=zfW (x:=x) hc;rw[waI c];omega
theorem zly{x c t:Int}(hc:0<c)(h:c*t<=x):t<=Int.fdiv x c:=by
 have h1:=zeT (x:=x) hc;refine wcB.1 fun hn=>?_
 have h2:c*(Int.fdiv x c+1)<=c*t:=wbT (by omega) (by omega);rw[wbQ,wbh]at h2;omega
theorem fr_holds{a:Fm}(w:WF a){v:Nat}(hc:coM a.1 v<0)(p:Nat->Int)(t:Int):atF a (Zq p v t)<=0↔frA v p a<=t:=by
 rw[zeA w];unfold frA;generalize atF a (Zq p v 0)=A;generalize coM a.1 v=c at *
 have h1:=zeT (x:=-A) (c:=-c) (by omega);constructor
 .intro h
  have:=zly (x:=-A) (c:=-c) (t:=Int.fdiv (-A) (-c)) (by omega) h1.1;refine wcB.1 fun hn=>?_
  have h2 : -c*(t+1)<=-c * -(Int.fdiv (-A) (-c)):=wbT (by omega) (by omega);rw[wbQ,wbh,wb1,wdi]at h2;omega
 .intro h
  have h2 : -c * -(Int.fdiv (-A) (-c))<=-c*t:=wbT h (by omega);rw[wb1,wdi c t]at h2;omega
theorem to_holds{a:Fm}(w:WF a){v:Nat}(hc:0<coM a.1 v)(p:Nat->Int)(t:Int):atF a (Zq p v t)<=0↔t<=toA v p a:=by
 rw[zeA w];unfold toA;generalize atF a (Zq p v 0)=A;generalize coM a.1 v=c at *
 have h1:=zeT (x:=-A) hc;constructor
 .intro h;exact zly hc (by omega)
 .intro h
  have h2:c*t<=c*Int.fdiv (-A) c:=wbT h (by omega);omega
theorem ztM{ls:List Fm}{v:Nat}{p:Nat->Int}(hw:∀ f∈ls,WF f)(hr:Sat (ZF ls v) p)(YA:okV (frL v p (QU ls v)) (toL v p (QR ls v))):Sat ls (Zq p v (zh2 (frL v p (QU ls v)) (toL v p (QR ls v)))):=by
 have h1:=zel v p (QU ls v);have h2:=zem v p (QR ls v);refine ztL (v:=v) (fun f hf=>?_) (fun f hf=>?_) fun f hf=>?_
 .obtain⟨k1,k2⟩:=zbw.1 hf
  rw[fr_holds (hw f k1) k2];cases VE:frL v p (QU ls v)with
  |none=>rw[VE]at h1;rw[h1]at hf;cases hf
  |some m=>rw[VE]at h1;exact h1.2 f hf
 .obtain⟨k1,k2⟩:=zcc.1 hf
  rw[to_holds (hw f k1) k2];cases EH:toL v p (QR ls v)with
  |none=>rw[EH]at h2;rw[h2]at hf;cases hf
  |some t =>
   rw[EH]at h2 YA;cases VE:frL v p (QU ls v)with
   |none=>exact h2.2 f hf
   |some m =>
    rw[VE]at YA;have YA:m<=t:=YA;have:=h2.2 f hf;show m<=_;omega
 .obtain⟨k1,k2⟩:=zfQ.1 hf
  have h3:=hr f hf;rw[zeA (hw f k1),k2,wbc,wa9];have h4:=zeA (hw f k1) p v (p v);rw[zku,k2,wbc,wa9]at h4;rw[<-h4];exact h3
theorem zqK{l h:Fm}(hl:WF l)(hh:WF h)(d:Bool)(v:Nat)(p:Nat->Int):atF (sh1 d v l h) p=coM h.1 v*atF l (Zq p v 0) - -(coM l.1 v) * -(atF h (Zq p v 0))+(if d=true then(-(coM l.1 v)-1)*(coM h.1 v-1)else 0):=by
 rw[zqI];have h1:=zeA hl p v (p v);have h2:=zeA hh p v (p v);rw[zku]at h1 h2;rw[h1,h2];congr 1
 grind
def zb4(v:Nat)(l:List Fm):Prop:=∀ a∈l,(coM a.1 v).natAbs=1
instance (v:Nat) (l:List Fm):Decidable (zb4 v l):=by unfold zb4;exact inferInstance
def exV(v:Nat)(low V6:List Fm):Prop:=zb4 v low\/zb4 v V6
instance (v:Nat) (low V6:List Fm):Decidable (exV v low V6):=by unfold exV;exact inferInstance
theorem zyn{ls:List Fm}{v:Nat}{p:Nat->Int}(hw:∀ f∈ls,WF f)(hs:Sat (shV (!decide (exV v (QU ls v) (QR ls v))) v (QU ls v) (QR ls v) (ZF ls v)) p):okV (frL v p (QU ls v)) (toL v p (QR ls v)):=by
 have h1:=zel v p (QU ls v);have h2:=zem v p (QR ls v);cases VE:frL v p (QU ls v)with
 |none=>trivial
 |some m =>
  cases EH:toL v p (QR ls v)with
  |none=>trivial
  |some t =>
   show m<=t;rw[VE]at h1;rw[EH]at h2;obtain⟨⟨l,hl,hm⟩,_⟩:=h1;obtain⟨⟨h,hh,ht⟩,_⟩:=h2;obtain⟨k1,k2⟩:=zbw.1 hl;obtain⟨k3,k4⟩:=zcc.1 hh;have h3:=hs _ (zgc.2 (.inr ⟨l,hl,h,hh,rfl⟩));rw[zqK (hw l k1) (hw h k3)]at h3;have hd:(-(coM l.1 v)-1)*(coM h.1 v-1)<=-(coM l.1 v) * -(atF h (Zq p v 0))-coM h.1 v*atF l (Zq p v 0):=by
    by_cases e:exV v (QU ls v) (QR ls v)
    .rw[waA e]at h3
     simp only[wcV,wa4,if_false]at h3;have hz:(-(coM l.1 v)-1)*(coM h.1 v-1)=0:=by
      rcases e with e|e
      .have:=e l hl
       rw[show -(coM l.1 v)-1=0 by omega,wbc]
      .have:=e h hh
       rw[show coM h.1 v-1=0 by omega,waF]
     omega
    .rw[wad e]at h3
     simp only[wcS,if_true]at h3;omega
   have hx : -(coM l.1 v)*m<=atF l (Zq p v 0) + -(coM l.1 v)-1:=by
    have:=zeT (x:=-(atF l (Zq p v 0))) (c:=-(coM l.1 v)) (by omega);rw[hm];unfold frA;rw[wb1];omega
   have:=zu9 (by omega) k4 hx hd;rw[ht];exact zly k4 this
theorem zpH{ls:List Fm}{v:Nat}{p:Nat->Int}(hw:∀ f∈ls,WF f)(hs:Sat ls p):Sat (shV false v (QU ls v) (QR ls v) (ZF ls v)) p:=fun f hf=>by
 rcases zgc.1 hf with hf|⟨l,hl,h,hh,rfl⟩
 .exact hs f (zfQ.1 hf).1
 .obtain⟨k1,k2⟩:=zbw.1 hl
  obtain⟨k3,k4⟩:=zcc.1 hh;rw[zqI];have h1:=hs l k1;have h2:=hs h k3;have e1:atF l p*coM h.1 v<=0*coM h.1 v:=wdB h1 (by omega);have e2:atF h p * -(coM l.1 v)<=0 * -(coM l.1 v):=wdB h2 (by omega);rw[wbc]at e1 e2;simp only[wa4,if_false];omega
def zaj(v:Nat)(l:List Fm):Int:=l.foldl (fun m h=>if m<coM h.1 v then coM h.1 v else m) 1
theorem zsT(v:Nat)(l:List Fm)(h:Fm):zaj v (l++[h])=if zaj v l<coM h.1 v then coM h.1 v else zaj v l:=by unfold zaj;rw[wcd];rfl
theorem zm7(v:Nat):∀ (l:List Fm) (m:Int),m<=l.foldl (fun m h=>if m<coM h.1 v then coM h.1 v else m) m/\(∀ h∈l,coM h.1 v<=l.foldl (fun m h=>if m<coM h.1 v then coM h.1 v else m) m)/\(l.foldl (fun m h=>if m<coM h.1 v then coM h.1 v else m) m=m\/∃ h∈l,l.foldl (fun m h=>if m<coM h.1 v then coM h.1 v else m) m=coM h.1 v)
 |[],m=>⟨wbi _,(fun h hh=>by cases hh),.inl rfl⟩
 |a::l,m=>by
  obtain⟨h1,h2,h3⟩:=zm7 v l (if m<coM a.1 v then coM a.1 v else m);rw[wcW];have hm:m<=(if m<coM a.1 v then coM a.1 v else m)/\coM a.1 v<=(if m<coM a.1 v then coM a.1 v else m):=by split<;>omega
  refine⟨Int.le_trans hm.1 h1,fun h hh=>?_,?_⟩
  .rcases wab.1 hh with rfl|hh
   .exact Int.le_trans hm.2 h1
   .exact h2 h hh
  .rcases h3 with h3|⟨h,hh,h3⟩
   .rw[h3]
    split
    .exact .inr ⟨a,wam,rfl⟩
    .exact .inl rfl
   .exact .inr ⟨h,waj _ hh,h3⟩
theorem zih(v:Nat)(l:List Fm):1<=zaj v l/\(∀ h∈l,coM h.1 v<=zaj v l)/\(zaj v l=1\/∃ h∈l,zaj v l=coM h.1 v):=zm7 v l 1
def zcm(v:Nat)(m:Int)(l:Fm):Int:=Int.fdiv (-(coM l.1 v)*m - -(coM l.1 v)-m) m
theorem zvn{ls:List Fm}{v:Nat}{p:Nat->Int}(hw:∀ f∈ls,WF f)(hs:Sat ls p)(hd:¬Sat (shV true v (QU ls v) (QR ls v) (ZF ls v)) p) :
  ∃ l∈QU ls v,∃ i:Int,0<=i/\i<=zcm v (zaj v (QR ls v)) l/\atF (QP l (Ze i)) p=0:=by
 have hd:∃ l∈QU ls v,∃ h∈QR ls v,¬atF (sh1 true v l h) p<=0:=waD fun X9=>hd fun f hf=>by
  rcases zgc.1 hf with hf|⟨l,hl,h,hh,rfl⟩
  .exact hs f (zfQ.1 hf).1
  .exact waD fun c=>X9 ⟨l,hl,h,hh,c⟩
 obtain⟨l,hl,h,hh,hn⟩:=hd;obtain⟨k1,k2⟩:=zbw.1 hl;obtain⟨k3,k4⟩:=zcc.1 hh;rw[zqK (hw l k1) (hw h k3)]at hn;simp only[if_true]at hn;have h1:=hs l k1;have h2:=hs h k3;have e1:=zeA (hw l k1) p v (p v);have e2:=zeA (hw h k3) p v (p v);rw[zku]at e1 e2;have hm:=zih v (QR ls v);have hx:coM h.1 v*p v<=-(atF h (Zq p v 0)):=by omega
 have:=zr0 (a:=-(coM l.1 v)) (b:=coM h.1 v) (m:=zaj v (QR ls v)) (L:=atF l (Zq p v 0)) (H:=-(atF h (Zq p v 0))) (x:=p v) (by omega) k4 (hm.2.1 h hh) hx (by omega);refine⟨l,hl,-(atF l p),by omega,?_,by rw[zdR,zfX];omega⟩;unfold zcm;rw[wcw _ (by omega)];have e3 : -(coM l.1 v)*p v-atF l (Zq p v 0) = -(atF l p):=by rw[e1,wdi];omega
 rw[<-e3];exact this
theorem zpI{v:Nat}{m:Int}{l:Fm}(hm:1<=m)(hl:coM l.1 v<0):zcm v m l < -(coM l.1 v):=by
 unfold zcm;generalize coM l.1 v=c at *
 have h:=zeT (x:=-c*m - -c-m) (c:=m) (by omega);refine Int.not_le.1 fun hn=>?_
 have h2:m * -c<=m*Int.fdiv (-c*m - -c-m) m:=wbT hn (by omega);rw[waI m (-c)]at h2;omega
theorem zpL{c:Fm}:∀ {out:List Fm},out.Pairwise (fun a b=>¬a.1=b.1)->(zaJ out c).Pairwise fun a b=>¬a.1=b.1
 |[],_=>List.pairwise_singleton _ _
 |o::l,h=>by
  obtain⟨h1,h2⟩:=wbL.1 h;rw[zaJ];split
  .rename_i e
   split
   .exact wbL.2 ⟨fun b hb=>by rw[<-e];exact h1 b hb,h2⟩
   .exact h
  .rename_i e
   refine wbL.2 ⟨fun b hb=>?_,zpL h2⟩;rcases zk4 b hb with rfl|hb
   .exact e
   .exact h1 b hb
theorem zpM(ls:List Fm):(Zr ls).Pairwise fun a b=>¬a.1=b.1:=by
 have key:∀ i,(Zr (ls.take i)).Pairwise fun a b=>¬a.1=b.1:=fun i=>by
  induction i with
  |zero=>exact List.Pairwise.nil
  |succ i ih =>
   by_cases hi:i<ls.length
   .rw[Zd hi,zfV]
    unfold zds;split
    .exact zpL ih
    .exact ih
   .rw[waL (by omega)]at ih ⊢;exact ih
 have:=key ls.length
 rwa[Q1]at this
theorem zvr(l:List Mn):scM (-1) (scM (-1) l)=l:=by
 unfold scM;rw[wac]
 conv=>rhs;rw[<-wb0 l]
 refine wau fun m _=>?_
 show(m.1,m.2 * -1 * -1)=m;exact Prod.ext rfl (by show m.2 * -1 * -1=m.2;omega)
theorem zf2{a b:Fm}:Yi a b↔a.1=scM (-1) b.1:=by
 unfold Yi;rw[zhr (by decide)];constructor
 .intro h;exact congrArg Prod.fst h
 .intro h
  have:(0:Int) * -1=0:=by decide
  rw[h];show(scM (-1) b.1,(0:Int))=(scM (-1) b.1,0 * -1);rw[this]
theorem ziy{a b:Fm}(h:Yi a b):Yi b a:=by
 rw[zf2]at h ⊢;rw[h,zvr]
theorem ztO{a b c:Fm}(h:Yi a b)(h':Yi a c):b.1=c.1:=by
 have h1:=zf2.1 (ziy h);have h2:=zf2.1 (ziy h');rw[h1,h2]
theorem zlz(a:Fm):∀ {l:List Fm},l.Pairwise (fun a b=>¬a.1=b.1)->(evJ a l).length<=1
 |[],_=>Qk _
 |b::l,h=>by
  obtain⟨h1,h2⟩:=wbL.1 h;rw[evJ];split
  .rename_i hc
   have:evJ a l=[]:=by
    rcases he:evJ a l with _|⟨e,t⟩
    .rfl
    .obtain⟨_,c,Ux,Kb,_⟩:=zjm e (a:=a) (l:=l) (by rw[he];exact wam)
     exact(h1 c Ux (ztO hc.1 Kb)).elim
   rw[this];exact Qd _
  .exact zlz a h2
theorem zlO{l:List Fm}(h:l.Pairwise (fun a b=>¬a.1=b.1)):∀ i,(evI l i).length<=i
 |0=>Qd _
 |i+1=>by
  have h1:=zlO h i;have h2:=zlz (l.getD i ([],0)) (l:=l.take i) (h.sublist (List.take_sublist _ _));rw[evI,Qj];omega
theorem zqM(l:List Mn):gM (scM (-1) l)=gM l:=by
 refine Nat.dvd_antisymm ?_ ?_
 .refine weo.1 (zq3 fun m hm=>?_)
  have:=zfs (l:=scM (-1) l) (m.1,m.2 * -1) (Qp.2 ⟨m,hm,rfl⟩);have h2:(gM (scM (-1) l):Int)∣m.2 * -1:=this
  rwa[wb1,wbh,Int.dvd_neg]at h2
 .refine weo.1 (zq3 fun m hm=>?_)
  obtain⟨x,hx,rfl⟩:=Qp.1 hm;show(gM l:Int)∣x.2 * -1;rw[wb1,wbh,Int.dvd_neg];exact zfs x hx
theorem zrM{g x:Int}(hg:g≠0)(h:g∣x):Int.fdiv (x * -1) g=Int.fdiv x g * -1:=by
 obtain⟨q,rfl⟩:=h;rw[wbP,wcJ _ hg,wcJ _ hg]
theorem ztP{f:Fm}(w:WF f)(hne:f.1≠[]):Yi (ZQ f) (ZQ (scF f (-1)))/\0<=(ZQ f).2+(ZQ (scF f (-1))).2:=by
 have hg:=zjR w hne;have EL:(gM f.1:Int)≠0:=by omega
 have e1:scF f (-1)=(scM (-1) f.1,f.2 * -1):=zhr (by decide);have Nr:scM (-1) f.1≠[]:=by
  intro h;apply hne;exact wd5.1 h
 rw[e1];unfold ZQ;rw[Qb hne,Qb Nr];refine⟨zf2.2 ?_,?_⟩
 .show nrM (gM f.1:Int) f.1=scM (-1) (nrM (gM (scM (-1) f.1):Int) (scM (-1) f.1))
  rw[zqM];unfold nrM scM;rw[wac,wac];refine wau fun m hm=>?_
  show(m.1,_)=(m.1,Int.fdiv (m.2 * -1) (gM f.1:Int) * -1)
  rw[zrM EL (zfs m hm)];exact Prod.ext rfl (by show Int.fdiv m.2 _=Int.fdiv m.2 _ * -1 * -1;omega)
 .show 0<=-(Int.fdiv (-f.2) (gM f.1:Int)) + -(Int.fdiv (-(f.2 * -1)) (gM (scM (-1) f.1):Int))
  rw[zqM];have hp:(0:Int)<(gM f.1:Int):=by omega
  have h1:=(zeT (x:=-f.2) hp).1;have h2:=(zeT (x:=-(f.2 * -1)) hp).1;generalize Int.fdiv (-f.2) (gM f.1:Int)=x at *
  generalize Int.fdiv (-(f.2 * -1)) (gM f.1:Int)=y at *
  generalize (gM f.1:Int)=g at *
  refine wcB.1 fun hn=>?_
  have h3:g*1<=g*(x+y):=wbT (by omega) (by omega);rw[wbQ]at h3;omega
theorem ztQ{f:Fm}(w:WF f)(hne:f.1≠[]):¬Yi f f:=fun h=>by
 have h:=zf2.1 h;unfold WF at w;cases hf:f.1 with
 |nil=>exact hne hf
 |cons m l =>
  rw[hf]at h w;have h1:m::l=(m.1,m.2 * -1)::scM (-1) l:=h;have h2:=congrArg (fun l:List Mn=>(l.headD (0,0)).2) h1;have h3:m.2=m.2 * -1:=h2;exact w.2.1 (by omega)
theorem zgd{f:Fm}:clF f=1↔f.1≠[]:=by
 unfold clF;constructor
 .intro h e;rw[Qc e]at h;split at h<;>omega
 .intro h;rw[Qb h]
theorem ztR{ls:List Fm}(hw:∀ a∈ls,WF a){f:Fm}(h1:f∈ls)(h2:scF f (-1)∈ls)(hne:f.1≠[])(he:okE (Zr ls)):evI (Zr ls) (Zr ls).length≠[]:=by
 have wf:=hw f h1;have Nr:(scF f (-1)).1≠[]:=by
  rw[zhr (by decide)];intro h;apply hne;exact wd5.1 h
 obtain⟨o1,Dk,t1,k1⟩:=zng h1 (zgd.2 hne);obtain⟨o2,EM,t2,k2⟩:=zng h2 (zgd.2 Nr);obtain⟨ht,hs⟩:=ztP wf hne;have Wq:Yi o1 o2:=by rw[zf2]at ht ⊢;rw[t1,t2];exact ht
 have SS:0<=o1.2+o2.2:=by omega
 have Dl:WF o1/\o1.1≠[]:=by
  unfold WF;rw[t1];exact⟨zp8 wf,fun h=>by
   have e:=zlC f;rw[zgd.2 hne]at e;exact zgd.1 e h⟩
 obtain⟨i,hi,rfl⟩:=waK.1 Dk;obtain⟨j,hj,rfl⟩:=waK.1 EM;rcases wd0 i j with c|c|c
 .have h3:=he j i c hj (ziy Wq)
  exact zl7 c hj (ziy Wq) (by omega) (by omega)
 .subst c
  exact(ztQ Dl.1 Dl.2 Wq).elim
 .have h3:=he i j c hi Wq
  exact zl7 c hi Wq (by omega) (by omega)
def Yo(r:Nat)(G:Nat->Nat->Int)(f:Fm):Prop:=ZL r G (coM f.1)
theorem zqN{g:Int}(hg:g≠0):∀ {l:List Mn},(∀ m∈l,g∣m.2)->∀ v,g*coM (nrM g l) v=coM l v
 |[],_,v=>waF _
 |m::l,h,v=>by
  have ih:=zqN hg (l:=l) (fun x hx=>h x (waj _ hx)) v;show g*coM ((m.1,Int.fdiv m.2 g)::nrM g l) v=coM (m::l) v;rw[coM,coM];split
  .obtain⟨q,hq⟩:=h m wam
   show g*Int.fdiv m.2 g=m.2;rw[hq,wcJ _ hg]
  .exact ih
theorem Yo.norm{r:Nat}{G:Nat->Nat->Int}{f:Fm}(w:WF f)(h:Yo r G f):Yo r G (ZQ f):=by
 unfold ZQ;split
 .exact h
 .rename_i hne
  have hg:=zjR w hne;have EL:(gM f.1:Int)≠0:=by omega
  refine ZL.div EL ?_;have e:(fun j=>(gM f.1:Int)*coM (nrM (gM f.1:Int) f.1) j)=coM f.1:=funext fun j=>zqN EL zfs j
  show ZL r G (fun j=>(gM f.1:Int)*coM (nrM (gM f.1:Int) f.1) j);rw[e];exact h
theorem Yo.zero{G:Nat->Nat->Int}{f:Fm}(w:WF f)(h:Yo 0 G f):f.1=[]:=by
 unfold WF at w;cases hf:f.1 with
 |nil=>rfl
 |cons m l =>
  rw[hf]at w;have:=h.none m.1;rw[hf,coM,Qc rfl]at this;exact(w.2.1 this).elim
theorem zor{l:List Mn}{k:Nat}(w:WM k l)(h:∀ v,coM l v=0):l=[]:=by
 cases l with
 |nil=>rfl
 |cons m l =>
  have:=h m.1;rw[coM,Qc rfl]at this;exact(w.2.1 this).elim
theorem zw1{r:Nat}{G:Nat->Nat->Int}{ls:List Fm}{v:Nat}(hw:∀ f∈ls,WF f)(hG:∀ f∈ls,Yo r G f)(hv:∃ f∈ls,coM f.1 v≠0):∃ r' G',r=r'+1/\∀ d,∀ f∈shV d v (QU ls v) (QR ls v) (ZF ls v),Yo r' G' f:=by
 obtain⟨f0,h1,h2⟩:=hv;cases r with
 |zero=>exact(h2 ((hG f0 h1).none v)).elim
 |succ r =>
  obtain⟨G',Mm⟩:=(hG f0 h1).cut h2;refine⟨r,G',rfl,fun d f hf=>?_⟩;rcases zgc.1 hf with hf|⟨l,hl,h,hh,rfl⟩
  .obtain⟨k1,k2⟩:=zfQ.1 hf
   exact Mm _ k2 (hG f k1)
  .obtain⟨k1,k2⟩:=zbw.1 hl
   obtain⟨k3,k4⟩:=zcc.1 hh;have e:coM (sh1 d v l h).1=fun j=>coM h.1 v*coM l.1 j + -(coM l.1 v)*coM h.1 j:=funext fun j=>zyl (hw l k1) (hw h k3) j
   refine Mm _ ?_ ?_
   .rw[e];show coM h.1 v*coM l.1 v + -(coM l.1 v)*coM h.1 v=0;grind
   .rw[e];exact(hG l k1).comb (hG h k3) _ _
theorem zvs{r:Nat}{G:Nat->Nat->Int}{f:Fm}{i:Int}(w:WF f)(h:Yo r G f):Yo r G (QP f (Ze i)):=by
 have e:coM (QP f (Ze i)).1=coM f.1:=funext fun j=>by
  rw[zgo w (zej i)];show _+coM [] j=_;rw[coM,wa9]
 unfold Yo;rw[e];exact h
theorem zw2{r:Nat}{G:Nat->Nat->Int}{f:Fm}{c:Int}(h:Yo r G f):Yo r G (scF f c):=by
 have e:coM (scF f c).1=fun j=>c*coM f.1 j:=funext fun j=>by rw[zhF,waI]
 unfold Yo;rw[e];exact h.sc c
theorem zvt{n C K:Nat}{f:Fm}(h:Fv n C K f):Yo n (fun i j=>if i=j then 1 else 0) f:=ZL.unit fun j hj=>h.co_ge hj
theorem zos{r:Nat}{G:Nat->Nat->Int}{ls:List Fm}(hw:∀ f∈ls,WF f)(hG:∀ f∈ls,Yo r G f):∀ f∈Zr ls,Yo r G f:=by
 have:=zk5 (P:=Yo r G) (ls:=ls) (fun a ha _=>(hG a ha).norm (hw a ha)) (i:=ls.length)
 rwa[Q1]at this
theorem zzc{n:Nat}{g:Int}{l:List Mn}(h:∀ m∈l,m.1<n):∀ m∈nrM g l,m.1<n:=fun m hm=>by
 obtain⟨x,hx,rfl⟩:=Qp.1 hm;exact h x hx
theorem Fv.norm{n C K:Nat}{f:Fm}(h:Fv n C K f):Fv n (C+1) (K+1) (ZQ f):=by
 refine⟨zp8 h.wf,?_,?_,?_⟩
 .unfold ZQ
  split
  .exact h.lt
  .exact zzc h.lt
 .unfold ZQ
  split
  .exact fun m hm=>Nat.le_succ_of_le (h.co m hm)
  .intro m hm
   obtain⟨x,hx,rfl⟩:=Qp.1 hm;have h1:=zas x.2 (gM f.1:Int);have h2:=h.co x hx;show lN (Int.fdiv x.2 _)<=_;omega
 .unfold ZQ
  split
  .exact Nat.le_succ_of_le h.ko
  .have h1:=zas (-f.2) (gM f.1:Int)
   have h2:=h.ko;rw[Zs]at h1;show lN (-(Int.fdiv (-f.2) _))<=_;rw[Zs];omega
theorem zpN{n C K:Nat}{ls:List Fm}(h:∀ f∈ls,Fv n C K f):∀ f∈Zr ls,Fv n (C+1) (K+1) f/\f.1≠[]:=by
 have:=zk5 (P:=fun f=>Fv n (C+1) (K+1) f/\f.1≠[]) (ls:=ls) (fun a ha hc=>⟨(h a ha).norm,fun e=>by
  have e2:=zlC a;rw[hc]at e2;exact zgd.1 e2 e⟩) (i:=ls.length)
 rwa[Q1]at this
theorem zwU{a:List (List RI)}{n e0 k:Nat}(hn:n<=6)(hA:∀ i j,(atW a i j).natAbs<=2^e0)(hk:k=(QF (atW a) n a.length a.length).2):zfl (eeG e0 k/29+1) (atW a) n a.length:=fun r hr=>by
 have hd:=zc4 (a:=atW a) (n:=n) (R:=a.length) r;rw[hk];exact zuF ((ziT hn (fun i j _ _=>hA i j) a.length (Qd _)).2 r hr) hd.1 hd.2
theorem zwV{a:List (List RI)}{b:List RI}{n e0:Nat}(hA:∀ i j,(atW a i j).natAbs<=2^e0)(hb:∀ r,(atR b r).natAbs<=2^e0)(hn:n<=6)(hR:a.length<=8000)(Tb:Nat){S:HX}(hS:S=(QF (atW a) n a.length a.length).1){pv:Nat->Int}(VI:pv=pvS (atW a) n a.length){kk:Nat->Nat}(VJ:kk=fun r=>(QF (atW a) n a.length r).2)
  {k ee Y G:Nat} (hk:k=kk a.length) (E9:ee=eeG e0 k) (hY:Y=(e0+(ee+4)*(k+1))/29+3) (hG:G=(30*Y+(ee+13)*(k+1)+13)/29+1) :
  LBsol S pv kk (atR b) n a.length Tb (ee/29+1) G/\∀ r,r<=a.length->∀ j,lN (ZD S pv kk (atR b) r j)<=Y:=by
 obtain⟨R,KO⟩:∃ R,R=a.length:=⟨_,rfl⟩
 have hW:=fun(i j:Nat) (_:i<a.length) (_:j<n)=>hA i j
 have YJ:=(ziT hn hW a.length (Qd _)).1;have hp:=zns hn hW;have OX:(QF (atW a) n a.length a.length).2=k:=by rw[hk,VJ]
 rw[OX,<-hS,<-E9]at YJ;rw[<-hS,<-VI,<-VJ]at hp;have Wo:=fun r=>ze4 (a:=atW a) (n:=n) (R:=a.length) r
 have RN:∀ r,kk r<=n/\kk r<=r:=fun r=>by rw[VJ];exact Wo r
 have Hb:∀ r,r<=a.length->kk r<=k:=fun r hr=>by rw[hk];exact hp.shp.mono hr (Qd _)
 have YN:∀ r,r<a.length->(pv r<0/\kk (r+1)=kk r)\/(¬pv r<0/\kk (r+1)=kk r+1):=fun r hr=>by
  rcases hp.row r hr with⟨h1,h2,_⟩|⟨h1,_,_,h2⟩
  .exact .inl ⟨h1,h2⟩
  .exact .inr ⟨by omega,h2⟩
 have WN:∀ i,i<a.length->0<=pv i->0<S.h i (kk i)/\pv i=(kk i:Int)/\kk i<n:=fun i hi Jd=>by
  rcases hp.row i hi with⟨h1,_⟩|⟨h1,h2,h3,_⟩
  .omega
  .exact⟨h3,h1,h2⟩
 have EA:∀ r c,r<a.length->c<n->(S.h r c).natAbs<=2^ee:=YJ.h;have hy:=zxC (S:=S) (pv:=pv) (kk:=kk) (b:=atR b) (n:=n) (R:=a.length) (H:=2^ee) (B:=2^e0) EA hb (by omega) (waZ (by decide)) (waZ (by decide)) (fun r=>(RN r).1) (by rw[VJ];rfl) YN;have JV:∀ m,m<=k+1->2^e0*(16*2^ee)^m<=2^(e0+(ee+4)*(k+1)):=fun m hm=>by
  have e1:16*2^ee=2^(ee+4):=by rw[wbe,Qt]
  rw[e1,<-wcm,<-wbe];exact waT (by decide) (wcz (waz _ hm) _)
 obtain⟨yb,VU⟩:∃ yb,yb=e0+(ee+4)*(k+1):=⟨_,rfl⟩
 rw[<-VU]at JV hY;have Eu:∀ r,r<=a.length->∀ j,lN (ZD S pv kk (atR b) r j)<=yb/29+1:=fun r hr j=>by
  have h1:=(hy r hr).1 j;have h2:=JV (kk r) (by have:=Hb r hr;omega);exact zdU (Qn h1 h2)
 have Et:∀ r,r<a.length->lN (zav S pv kk (atR b) r)<=yb/29+1:=fun r hr=>by
  have h1:=(hy r (by omega)).2 hr;have h2:=JV (kk r+1) (by have:=Hb r (by omega);omega);exact zdU (Qn (show(zav S pv kk (atR b) r).natAbs<=_ by omega) h2)
 have LV:∀ r c,r<a.length->c<n->lN (S.h r c)<=ee/29+1:=fun r c h1 h2=>zdU (EA r c h1 h2)
 have SI:ee/29<=yb/29:=by
  refine Nat.div_le_div_right ?_;rw[VU,waf,wah];omega
 have OY:Y<=G:=by rw[hG];omega
 have Xy:Tb<a.length->lQ (zb0 S pv kk (atR b) Tb)<=Y:=fun hT=>by
  have l1:lN 1<=1:=zap (by omega);unfold zb0;split
  .have h1:=zkk 1 (zav S pv kk (atR b) Tb+zav S pv kk (atR b) Tb)
   have h2:=za6 (zav S pv kk (atR b) Tb) (zav S pv kk (atR b) Tb);have h3:=Et Tb hT;omega
  .rename_i hp
   have h1:=zkk 1 (S.h Tb (kk Tb));have h2:=WN Tb hT (by omega);have h3:=LV Tb (kk Tb) hT h2.2.2;omega
 refine⟨?_,fun r hr j=>by have:=Eu r hr j;omega⟩;refine⟨LV,fun r c h1 h2=>zdU (YJ.u r c h1 h2),fun r hr j=>by have:=Eu r hr j;omega,fun r hr=>by have:=Et r hr;omega,fun hT=>by have:=Xy hT;omega,fun hT=>?_⟩;obtain⟨q0,hq⟩:∃ q0,q0=zb0 S pv kk (atR b) Tb:=⟨_,rfl⟩
 rw[<-hq];have Ut:=Xy hT;rw[<-hq]at Ut;obtain⟨f,hf⟩:∃ f,f=30*Y:=⟨_,rfl⟩
 have Kg:q0.num.natAbs<=2^f:=by
  have h1:=zaD q0;rw[hf];exact zin (z:=q0.num) (k:=Y) (by omega)
 have OZ:q0.den<=2^f:=by
  have h1:=zbl q0;have:=zin (z:=(q0.den:Int)) (k:=Y) (by omega);rw[hf];omega
 have VE:=zoB (S:=S) (pv:=pv) (kk:=kk) (r:=Tb) (M:=8000) (q0:=q0) (H:=2^ee) (by omega) (fun i hi=>YN i (by omega)) (waZ (by decide)) (fun i j hi hj hp=>by
  obtain⟨h1,h2,h3⟩:=WN i (by omega) hp;rw[h2,wbD];exact EA j (kk i) (by omega) h3) (fun i hi hp=>by
  obtain⟨h1,h2,h3⟩:=WN i (by omega) hp;rw[h2,wbD];exact h1) Kg OZ
 obtain⟨g,hg⟩:∃ g,g=f+(ee+13)*(k+1)+13:=⟨_,rfl⟩
 have Wc:g/29+1=G:=by rw[hG,hg,hf]
 have JW:∀ t,kk Tb-kk (Tb-t)<=k:=fun t=>by have:=Hb Tb (by omega);omega
 have LW:∀ c,c<=k->2^f*(2^ee)^c<=2^g:=fun c hc=>by
  rw[<-wcm,<-wbe];refine waT (by decide) ?_;have h1:ee*c<=ee*k:=waz _ hc;have h2:ee*k<=(ee+13)*(k+1):=waB (by omega) (by omega);omega
 have LX:∀ c,c<=k->2^f*((8000+1)*2^ee)^c<=2^(f+(ee+13)*k):=fun c hc=>by
  have h1:(8000+1)*2^ee<=2^(ee+13):=by rw[wbe];omega
  refine Qn (waz _ (wcn h1 c)) ?_;rw[<-wcm,<-wbe];exact waT (by decide) (wcz (waz _ hc) _)
 have Hc:8000*(2^ee*2^(f+(ee+13)*k))<=2^g:=by
  have:2^g=2^(f+(ee+13)*k)*(2^ee*2^26):=by
   rw[hg,<-wbe,<-wbe];congr 1;rw[waf,wah];omega
  rw[this,Qt (2^(f+(ee+13)*k)) _,Nat.mul_right_comm,Qt 8000];exact waz _ (by decide)
 have He:2^(f+(ee+13)*k)<=2^g:=waT (by decide) (by rw[hg,waf,wah];omega);refine⟨fun t ht j hj=>?_,fun t ht hp d hd=>?_⟩
 .obtain⟨_,D,A,h1,h2,h3,h4⟩:=VE t ht
  rw[h3];have:=zpj (Qn (Qn (h4 j) (LX _ (JW t))) He) (Qn h2 (LW _ (JW t)));omega
 .obtain⟨_,D,A,h1,h2,h3,h4⟩:=VE t (by omega)
  obtain⟨g1,g2,g3⟩:=WN (Tb-1-t) (by omega) hp;have Ul:smQ (fun d=>rsF S pv Tb q0 t (Tb-t+d)*(S.h (Tb-t+d) (pv (Tb-1-t)).toNat:Rat)) d=((smI (fun d=>A (Tb-t+d)*S.h (Tb-t+d) (pv (Tb-1-t)).toNat) d:Int):Rat)/((D:Int):Rat):=by
   rw[<-zo0];exact Yd fun d _=>by rw[h3]
  rw[Ul];have Gi:=zgb (f:=fun d=>A (Tb-t+d)*S.h (Tb-t+d) (pv (Tb-1-t)).toNat) (K:=2^ee*2^(f+(ee+13)*k)) (n:=d) fun c hc=>by
   rw[wbb,Qt];refine waB ?_ (Qn (h4 _) (LX _ (JW t)));rw[g2,wbD];exact EA _ _ (by omega) g3
  have Hf:d*(2^ee*2^(f+(ee+13)*k))<=8000*(2^ee*2^(f+(ee+13)*k)):=wak _ (by omega);have:=zpj (Qn Gi (Qn Hf Hc)) (Qn h2 (LW _ (JW t)));omega
def foJ(x:Int)(u:Nat->Int)(k:Nat):Nat->Fm
 |0=>Ze x
 |m+1=>QP (foJ x u k m) (scF (Z7 m) (u (k+m)))
theorem zeD{x:Int}{u:Nat->Int}{k:Nat}:∀ m,WF (foJ x u k m)
 |0=>zej x
 |m+1=>zgn (zeD m) (zbC (zjo m) _)
theorem zjA{x:Int}{u:Nat->Int}{k:Nat}(y:Nat->Int):∀ m,atF (foJ x u k m) y=x+smI (fun j=>u (k+j)*y j) m
 |0=>by show atF (Ze x) y=x+0;rw[zfX];omega
 |m+1=>by
  show atF (QP _ _) y=x+(smI _ m+u (k+m)*y m)
  rw[zdR,zjA y m,zcQ,zqi,waI (y m)];omega
theorem zhA{x:Int}{u:Nat->Int}{k:Nat}(v:Nat):∀ m,coM (foJ x u k m).1 v=if v<m then u (k+v)else 0
 |0=>rfl
 |m+1=>by
  show coM (QP _ _).1 v=_;rw[zgo (zeD m) (zbC (zjo m) _),zhA v m,zhF,zxN];by_cases e:m=v
  .subst e;rw[Qb (wa8 m),Qc rfl,Qc (waN m)];omega
  .rw[Qb e]
   by_cases c:v<m
   .rw[Qc c,Qc (by omega)];omega
   .rw[Qb c,Qb (by omega)];omega
def nwL(fo:Nat->Fm)(k:Int)(l:List Mn):Fm:=l.foldl (fun o m=>QP o (scF (fo m.1) m.2)) (Ze k)
theorem zoN(fo:Nat->Fm)(k:Int)(l:List Mn)(m:Mn):nwL fo k (l++[m])=QP (nwL fo k l) (scF (fo m.1) m.2):=by unfold nwL;rw[wcd];rfl
theorem zoO(fo:Nat->Fm)(y:Nat->Int):∀ (l:List Mn) (o:Fm),atF (l.foldl (fun o m=>QP o (scF (fo m.1) m.2)) o) y=atF o y+atM l fun v=>atF (fo v) y
 |[],o=>by show atF o y=atF o y+0;omega
 |m::l,o=>by
  rw[wcW,zoO fo y l,zdR,zcQ,atM,waI];omega
theorem zq4(fo:Nat->Fm)(k:Int)(l:List Mn)(y:Nat->Int):atF (nwL fo k l) y=atF (l,k) fun v=>atF (fo v) y:=by
 unfold nwL;rw[zoO,zfX];rfl
theorem zjk:∀ {l:List Mn} {k n:Nat},WM k l->(∀ m∈l,m.1<n)->∀ p:Nat->Int,atM l p=smI (fun v=>coM l v*p v) n
 |[],_,n,_,_,p=>by
  exact(zcv fun i _=>wbc _).symm
 |m::l,k,n,w,h,p=>by
  have ih:=zjk w.2.2 (fun x hx=>h x (waj _ hx)) p;have hm:=h m wam;have e:smI (fun v=>coM (m::l) v*p v) n=smI (fun v=>(if v=m.1 then m.2*p v else 0)+coM l v*p v) n:=Zm fun v _=>by
   rw[coM];by_cases c:m.1=v
   .rw[Qc c,Qc c.symm,zf6 w.2.2 (by omega)];omega
   .rw[Qb c,Qb (fun h=>c h.symm)];omega
  rw[e,zfe,<-ih,zca (f:=fun v=>if v=m.1 then m.2*p v else 0) hm (fun j _ hj=>Qb hj),Qc rfl];rfl
theorem zoP{fo:Nat->Fm}(v:Nat):∀ (l:List Mn) (o:Fm),WF o->(∀ m∈l,WF (fo m.1))->coM (l.foldl (fun o m=>QP o (scF (fo m.1) m.2)) o).1 v=coM o.1 v+atM l fun i=>coM (fo i).1 v
 |[],o,_,_=>by show coM o.1 v=coM o.1 v+0;omega
 |m::l,o,ho,h=>by
  have hm:=h m wam;rw[wcW,zoP v l _ (zgn ho (zbC hm _)) fun x hx=>h x (waj _ hx),zgo ho (zbC hm _),zhF,atM,waI];omega
theorem zyI{fo:Nat->Fm}{k:Int}{l:List Mn}{n c:Nat}(w:WM c l)(hl:∀ m∈l,m.1<n)(h:∀ i,WF (fo i))(v:Nat):coM (nwL fo k l).1 v=smI (fun i=>coM l i*coM (fo i).1 v) n:=by
 unfold nwL;rw[zoP v l _ (zej k) fun m _=>h m.1,zjk w hl];show coM [] v+_=_;rw[coM];omega
theorem zl5{fo:Nat->Fm}{n n' C K U X:Nat}{f:Fm}(h:Fv n C K f)(JZ:∀ i,i<n->Fv n' U X (fo i)):∀ m,m<=f.1.length->Fv n' (U+C+m) (max K (X+C)+m) (nwL fo f.2 (f.1.take m))
 |0,_=>Fv.const (by have:=h.ko;omega)
 |m+1,hm=>by
  rw[Zd (by omega),zoN];have hx:=h.lt _ (Qh (show m<f.1.length by omega));have hc:=h.co _ (Qh (show m<f.1.length by omega));exact(zl5 h JZ m (by omega)).add ((JZ _ hx).sc hc) (by omega) (by omega)
def evA(n:Nat)(ev:List Fm):List (List RI):=ev.map fun e=>fnG n fun j=>Ys (coM e.1 j)
def evB(ev:List Fm):List RI:=ev.map fun e=>Ys (-e.2)
theorem zcJ(n:Nat)(ev:List Fm):(evA n ev).length=ev.length:=Qm _
theorem zjB{n:Nat}{ev:List Fm}{r:Nat}(hr:r<ev.length){j:Nat}(hj:j<n):atW (evA n ev) r j=coM ev[r].1 j:=by
 rw[zl4 (by rw[zcJ];exact hr)];simp only[evA,Qq];rw[zgz (by rw[Zc];exact hj),za2,zhz]
theorem zq5{ev:List Fm}{r:Nat}(hr:r<ev.length):atR (evB ev) r = -(ev[r].2):=by
 unfold evB;rw[zgz (by rw[Qm];exact hr)];simp only[Qq];rw[zhz]
theorem zxs{n C K:Nat}{ev:List Fm}(h:∀ f∈ev,Fv n C K f)(i j:Nat):(atW (evA n ev) i j).natAbs<=2^(30*C):=by
 refine zin ?_;by_cases hi:i<ev.length
 .by_cases hj:j<n
  .rw[zjB hi hj];exact(h _ (Qh hi)).lco j
  .rw[zl4 (by rw[zcJ];exact hi)]
   simp only[evA,Qq];rw[zjy (by rw[Zc];omega),ZI];omega
 .rw[zyD (by rw[zcJ];omega),ZI];omega
theorem zxt{n C K:Nat}{ev:List Fm}(h:∀ f∈ev,Fv n C K f)(i:Nat):(atR (evB ev) i).natAbs<=2^(30*K):=by
 refine zin ?_;by_cases hi:i<ev.length
 .rw[zq5 hi,Zs];exact(h _ (Qh hi)).ko
 .rw[zjy (by unfold evB;rw[Qm];omega),ZI];omega
section
variable {n:Nat} {T:List Fm} {ev:List Fm} {S:HX} {pv:Nat->Int} {kk:Nat->Nat} {R k:Nat}
def foS(S:HX)(pv:Nat->Int)(kk:Nat->Nat)(b:Nat->Int)(n R:Nat)(i:Nat):Fm:=foJ (zfF S pv kk b n R i) (S.u i) (kk R) (n-kk R)
def zhT(S:HX)(pv:Nat->Int)(kk:Nat->Nat)(b:Nat->Int)(n R:Nat)(T:List Fm):List Fm:=T.map fun c=>nwL (foS S pv kk b n R) c.2 c.1
theorem zgk{f:Fm}{p q:Nat->Int}(h:∀ m∈f.1,p m.1=q m.1):atF f p=atF f q:=by
 have key:∀ l:List Mn,(∀ m∈l,p m.1=q m.1)->atM l p=atM l q:=fun l=>by
  induction l with
  |nil=>intro _;rfl
  |cons m l ih=>intro h;rw[atM,atM,h m wam,ih fun x hx=>h x (waj _ hx)]
 show f.2+_=f.2+_;rw[key f.1 h]
theorem zoQ{b:Nat->Int}{y:Nat->Int}:Sat (zhT S pv kk b n R T) y↔Sat T fun v=>atF (foS S pv kk b n R v) y:=by
 unfold zhT;constructor
 .intro h f hf
  have:=h _ (Qp.2 ⟨f,hf,rfl⟩);rw[zq4]at this;exact this
 .intro h f hf
  obtain⟨c,hc,rfl⟩:=Qp.1 hf;rw[zq4];exact h c hc
theorem znG{C K:Nat}(hT:∀ f∈T,Fv n C K f)(YP:∀ e∈ev,e∈T){p:Nat->Int}(h0:∀ e∈ev,atF e p=0):∀ r,r<(evA n ev).length->smI (fun j=>atW (evA n ev) r j*p j) n=atR (evB ev) r:=fun r hr=>by
 rw[zcJ]at hr;have hf:=hT _ (YP _ (Qh hr));have h1:=h0 _ (Qh hr);rw[zq5 hr,Zm fun j hj=>by rw[zjB hr hj],<-zjk hf.wf hf.lt];have h2:atF ev[r] p=ev[r].2+atM ev[r].1 p:=rfl;omega
theorem zxu{C K:Nat}(hT:∀ f∈T,Fv n C K f)(YP:∀ e∈ev,e∈T)(hp:Piv S n (evA n ev).length kk pv)(hi:InvH (atW (evA n ev)) n (evA n ev).length S){p:Nat->Int}(hs:Sat T p)(h0:∀ e∈ev,atF e p=0):∃ y,Sat (zhT S pv kk (atR (evB ev)) n (evA n ev).length T) y:=by
 obtain⟨y,hy⟩:=zwR hp hi (znG hT YP h0);refine⟨y,zoQ.2 fun f hf=>?_⟩;have e:atF f (fun v=>atF (foS S pv kk (atR (evB ev)) n (evA n ev).length v) y)=atF f p:=zgk fun m hm=>by
  show atF (foJ _ _ _ _) y=_;rw[zjA,<-hy m.1 ((hT f hf).lt m hm)]
 rw[e];exact hs f hf
theorem zvU{C K r:Nat}{G:Nat->Nat->Int}(hT:∀ f∈T,Fv n C K f)(YP:∀ e∈ev,e∈T)(hp:Piv S n (evA n ev).length kk pv)(hi:InvH (atW (evA n ev)) n (evA n ev).length S)(hG:∀ f∈T,Yo r G f) :
  ∃ r' G',r'+kk (evA n ev).length=r/\∀ f∈zhT S pv kk (atR (evB ev)) n (evA n ev).length T,Yo r' G' f:=by
 obtain⟨R,hR⟩:∃ R,R=(evA n ev).length:=⟨_,rfl⟩
 rw[<-hR]at hp hi ⊢;obtain⟨Tm,Ll⟩:∃ Tm:(Nat->Int)->Nat->Int,Tm=fun w c=>smI (fun v=>w v*(if c<n then S.u v c else 0)) n:=⟨_,rfl⟩
 have MQ:∀ w c,c<n->Tm w c=smI (fun v=>w v*S.u v c) n:=fun w c hc=>by rw[Ll];exact Zm fun v _=>by rw[Qc hc]
 have MR:∀ w c,n<=c->Tm w c=0:=fun w c hc=>by rw[Ll];exact zcv fun v _=>by rw[Qb (by omega),waF]
 have XQ:=(hp.shp.le R (Qd _)).1;obtain⟨r',G',h1,h2⟩:=zp6 (W:=fun w=>∃ f∈T,w=coM f.1) (T:=Tm) (r:=r) (G:=fun i j=>smI (fun v=>G i v*(if j<n then S.u v j else 0)) n) (fun w ⟨f,hf,e⟩=>by rw[Ll,e];exact(hG f hf).map _ n) (kk R) fun j hj=>by
  obtain⟨r,hr,_,hne,hz⟩:=zkS hp R (Qd _) j hj;have NZ:r<ev.length:=by rw[<-zcJ n ev,<-hR];exact hr
  have YE:∀ c,c<n->Tm (coM ev[r].1) c=S.h r c:=fun c hc=>by
   rw[MQ _ _ hc,hi.hau r hr c hc];exact Zm fun v hv=>by rw[zjB NZ hv]
  refine⟨coM ev[r].1,⟨ev[r],YP _ (Qh NZ),rfl⟩,by rw[YE j (by omega)];exact hne,fun c hc=>?_⟩;by_cases XC:c<n
  .rw[YE c XC];exact hz c hc XC
  .exact MR _ _ (by omega)
 refine⟨r',fun i j=>G' i (j+kk R),h1,fun f hf=>?_⟩;obtain⟨c,hc,rfl⟩:=Qp.1 hf;have h3:=(h2 _ ⟨c,hc,rfl⟩).re fun j=>j+kk R
 have hF:=hT c hc;have e:coM (nwL (foS S pv kk (atR (evB ev)) n R) c.2 c.1).1=fun j=>if j+kk R<kk R then 0 else Tm (coM c.1) (j+kk R):=funext fun j=>by
  rw[Qb (by omega),zyI (fo:=foS S pv kk (atR (evB ev)) n R) hF.wf hF.lt (fun i=>zeD _) j];by_cases hj:j<n-kk R
  .rw[MQ _ _ (by omega)]
   refine Zm fun i _=>?_
   show _*coM (foJ _ _ _ _).1 j=_;rw[zhA,Qc hj,wcX (kk R) j]
  .rw[MR _ _ (by omega)]
   refine zcv fun i _=>?_
   show _*coM (foJ _ _ _ _).1 j=_;rw[zhA,Qb hj,waF]
 show ZL r' _ (coM _);rw[e];exact h3
theorem zyJ{C K:Nat}(hT:∀ f∈ev,Fv n C K f/\f.1≠[])(hne:ev≠[])(hp:Piv S n (evA n ev).length kk pv)(hi:InvH (atW (evA n ev)) n (evA n ev).length S):1<=kk (evA n ev).length:=by
 refine waD fun hc=>?_
 have hk:kk (evA n ev).length=0:=by omega
 have hl:0<ev.length:=wa6.2 hne;have Vp:0<(evA n ev).length:=by rw[zcJ];exact hl
 have YE:∀ c,c<n->S.h 0 c=0:=fun c XC=>by
  have h1:=hp.shp.mono (i:=1) (j:=(evA n ev).length) (by omega) (Qd _);have h0:=hp.shp.k0;rcases hp.row 0 Vp with⟨a1,a2,a3⟩|⟨_,_,_,a4⟩
  .by_cases e:c=0
   .subst e
    have:=a3 (by omega)
    rwa[h0]at this
   .exact hp.shp.right 0 c Vp (by omega) XC
  .have a4:kk 1=kk 0+1:=a4
   omega
 obtain⟨hf,So⟩:=hT _ (Qh hl);refine So (zor hf.wf fun v=>?_);by_cases hv:v<n
 .have h1:=hi.vx (fun i=>if i=v then 1 else 0) Vp
  rw[zcv fun j hj=>by rw[YE j hj,wbc]]at h1;rw[zca (f:=fun i=>atW (evA n ev) 0 i*if i=v then 1 else 0) hv (fun j _ hj=>by rw[Qb hj,waF]),Qc rfl,wbh,zjB hl hv]at h1;exact h1.symm
 .exact hf.co_ge (by omega)
end
def zh4:Nat->Nat
 |0=>1
 |j+1=>70*zh4 j+200
def zam:Nat->Nat
 |0=>8
 |j+1=>zam j*zam j/4+zam j
theorem zt9{i:Nat}:∀ {j:Nat},i<=j->zh4 i<=zh4 j
 |0,h=>by
  obtain rfl:i=0:=by omega
  exact Qd _
 |j+1,h=>by
  by_cases e:i=j+1
  .rw[e];exact Qd _
  .have:=zt9 (i:=i) (j:=j) (by omega)
   show zh4 i<=70*zh4 j+200;omega
theorem zeU{i:Nat}:∀ {j:Nat},i<=j->zam i<=zam j
 |0,h=>by
  obtain rfl:i=0:=by omega
  exact Qd _
 |j+1,h=>by
  by_cases e:i=j+1
  .rw[e];exact Qd _
  .have:=zeU (i:=i) (j:=j) (by omega)
   show zam i<=zam j*zam j/4+zam j;omega
theorem zxj(j:Nat):8<=zam j:=zeU (i:=0) (Qk _)
theorem zvN(j:Nat):zam j+2<=zam (j+1):=by
 have h:=zxj j;have h2:8*8<=zam j*zam j:=waB h h;show zam j+2<=zam j*zam j/4+zam j;omega
theorem zsY{a b c N:Nat}(h:a+b+c<=N):c+a*b<=N*N/4+N:=by
 have h1:4*(a*b)<=(a+b)*(a+b):=by
  have e:(a+b)*(a+b)=a*a+b*b+2*(a*b):=by rw[war,waf,waf,Qt b a];omega
  rcases Nat.le_total a b with c|c
  .obtain⟨d,rfl⟩:∃ d,b=a+d:=⟨b-a,by omega⟩
   have e2:(a+d)*(a+d)=a*a+2*(a*d)+d*d:=by rw[war,waf,waf,Qt d a];omega
   rw[e,e2,waf];omega
  .obtain⟨d,rfl⟩:∃ d,a=b+d:=⟨a-b,by omega⟩
   have e2:(b+d)*(b+d)=b*b+2*(b*d)+d*d:=by rw[war,waf,waf,Qt d b];omega
   rw[e,e2,war,Qt d b];omega
 have h2:(a+b)*(a+b)<=N*N:=waB (by omega) (by omega);omega
theorem zl2:zam 3=7224/\zam 4=13053768:=by decide
theorem zrx(n C:Nat)(hn:n<=4):(2*((n+1)*BB^C)+1)^n<=BB^(4*C+4):=by
 have h1:2*((n+1)*BB^C)+1<=BB^(C+1):=by
  have hp:1<=BB^C:=waZ (by decide);have h2:(n+1)*BB^C<=5*BB^C:=wak _ (by omega);have h3:11*BB^C<=BB*BB^C:=wak _ (by decide);rw[waP,Qt (BB^C)];omega
 refine Qn (wcn h1 n) ?_;rw[<-wcm];refine waT (by decide) ?_;have:(C+1)*n<=(C+1)*4:=waz _ hn;omega
section
variable {fs:List Fm} {n C K V:Nat} {S:SX}
theorem zp1(YU:∀ f∈fs,Fv n C K f)(i j:Nat):(coM (fs.getD i ([],0)).1 j).natAbs<=BB^C:=by
 rcases was i fs.length with h|h
 .rw[waC,waa h]
  exact Nat.le_of_lt (wbf (zbU _) (waT (by decide) ((YU _ (Qh h)).lco j)))
 .rw[waC,wcy h]
  exact Qk _
theorem zjN{a b:Nat}(h:a<=BB^b):a<BB^(b+1):=wbZ h (Nat.pow_lt_pow_right (by decide) (by omega))
theorem aX_G(hn:n<=4)(YU:∀ f∈fs,Fv n C K f)(h:InvX (aOf fs) n fs.length S){i j:Nat}(hi:i<fs.length)(hj:j<n):lQ (S.a i j)<=4*C+5:=by
 obtain⟨h1,h2⟩:=zzj (fun i j=>coM (fs.getD i ([],0)).1 j) (B:=BB^C) (waZ (by decide)) (fun i j _ _=>zp1 YU i j) h hi hj;have h3:=zrx n C hn;exact zgA (zch (zjN (Qn h1 h3))) (zch (zjN (Qn (by simpa using h2) h3)))
theorem koF(YU:∀ f∈fs,Fv n C K f)(i:Nat):lN (-(fs.getD i ([],0)).2)<=K:=by
 rw[Zs];rcases was i fs.length with h|h
 .rw[waC,waa h];exact(YU _ (Qh h)).ko
 .rw[waC,wcy h]
  show lN 0<=K;rw[ZI];omega
theorem zry(YU:∀ f∈fs,Fv n C K f)(h:InvX (aOf fs) n fs.length S)(hm:S.mo=moF fs){c:Nat}(hc:c<n):∃ b:Int,S.va (S.cl c)=(b:Rat)/\lN b<=K:=by
 rw[h.nb c hc];split
 .exact⟨0,rfl,by rw[ZI];omega⟩
 .rw[hm]
  exact⟨_,rfl,koF YU _⟩
theorem zrz(hn:n<=4)(YU:∀ f∈fs,Fv n C K f)(h:InvX (aOf fs) n fs.length S)(hm:S.mo=moF fs){v:Nat}(hv:v<n+fs.length):lQ (S.va v)<=4*C+K+6:=by
 rcases h.sur v hv with⟨i,hi,rfl⟩|⟨c,hc,rfl⟩
 .have hb:∀ c,∃ b:Int,c<n->S.va (S.cl c)=(b:Rat)/\b.natAbs<=BB^K:=fun c=>by
   by_cases hc:c<n
   .obtain⟨b,h1,h2⟩:=zry YU h hm hc
    exact⟨b,fun _=>⟨h1,Nat.le_of_lt (wbf (zbU b) (waT (by decide) h2))⟩⟩
   .exact⟨0,fun h=>Qo h hc⟩
  obtain⟨b,hb⟩:=wdI.1 hb;obtain⟨h1,h2⟩:=zzk (fun i j=>coM (fs.getD i ([],0)).1 j) (B:=BB^C) (C:=BB^K) (waZ (by decide)) (fun i j _ _=>zp1 YU i j) h b hb hi;have h3:=zrx n C hn;have h4:n*((2*((n+1)*BB^C)+1)^n*BB^K)<=BB*(BB^(4*C+4)*BB^K):=waB (Qn hn (by decide)) (wak _ h3);have h5:BB*(BB^(4*C+4)*BB^K)=BB^(4*C+K+5):=by rw[<-wbe,<-wd4];congr 1;omega
  have h6:BB^(4*C+4)<=BB^(4*C+K+5):=waT (by decide) (by omega);refine zgA (zch (zjN (Qn h1 (h5▸h4)))) (zch (zjN ?_));show(S.va (S.rw i)).den<=_;omega
 .obtain⟨b,h1,h2⟩:=zry YU h hm hc
  rw[h1];have:=zfh b;omega
theorem zzq(hn:n<=4)(hR:fs.length<=8000)(YU:∀ f∈fs,Fv n C K f)(h:InvX (aOf fs) n fs.length S)(hm:S.mo=moF fs):BdX (4*C+K+6) S:=by
 have en:=h.en;have eR:=h.eR;exact⟨by omega,fun i _=>by
  have h1:=koF YU i;have h2:=zfh (-(fs.getD i ([],0)).2);rw[hm];show lQ ((-(fs.getD i ([],0)).2:Int):Rat)<=_;omega,fun v hv=>by have:=zrz hn YU h hm (v:=v) (by omega);omega,fun i j hi hj=>by have:=aX_G hn YU h (i:=i) (j:=j) (by omega) (by omega);omega,fun i hi=>by have:=h.rlt i (by omega);omega,fun c hc=>by have:=h.clt c (by omega);omega⟩
theorem zoK(fs:List Fm)(n:Nat){C K:Nat}(hn:n<=4)(hd:fs.length<=8000)(YU:∀ f∈fs,Fv n C K f)(hV:4*C+K+6<=400000000) :
  (∃ x:List Rat,x.length=n/\(∀ q∈x,lQ q<=4*C+K+6)/\Q9 prog 34 [.one (eL cF fs),tI .i64 n] (.tup [tLR x,zmt,tB true])/\∀ f∈fs,atQ f (ptR x)<=0) \/
  (∃ g:List Rat,g.length=fs.length/\(∀ q∈g,lQ q<=4*C+K+6)/\zdh fs n g/\Q9 prog 34 [.one (eL cF fs),tI .i64 n] (.tup [zmt,tLR g,tB false])):=by
 have Es:∀ f∈fs,WF f:=fun f hf=>(YU f hf).wf
 have UY:=znh fs n;obtain⟨T,hT,hs⟩:=zsi UY;have Sd:∀ t,BdX (4*C+K+6) (itX (zcR fs n) t):=fun t=>zzq hn hd YU (zdN UY t).1 (zdN UY t).2
 have e:(fs.map ZP).map lv=fs:=by
  rw[wac];exact(wau (g:=id) fun f hf=>zbR (Es f hf)).trans (wb0 _)
 have hc:=zv7 (fs.map ZP) n (N:=n) (L:=max C K) (by omega) (by rw[Qm];exact hd) (by omega) (by omega) (fun l hl=>by obtain⟨f,hf,rfl⟩:=Qp.1 hl;exact zbS ((YU f hf).bd (by omega) (wbK _ _) (wbG _ _))) T (by rw[e];exact hT) (by rw[e];exact hs) hV (by rw[e];exact fun t _=>Sd t);have ecL:eL cL (fs.map ZP)=eL cF fs:=by
  unfold eL;rw[wac];refine congrArg (Abs.T.seq none) (wau fun f _=>?_);show[eL cM (f.1.map eMn),_,_]=_;rw[zjs];rfl
 rw[e,ecL]at hc;have hI:=(zdN UY T).1;have hm:=(zdN UY T).2;generalize itX (zcR fs n) T=S at *
 have hm:S.mo=moF fs:=hm;have en:=hI.en;have eR:=hI.eR;unfold zmr at hc;cases hb:S.broken with
 |none =>
  rw[hb]at hc;refine .inl ⟨fnG S.n S.va,by rw[Zc];exact en,fun q hq=>?_,hc,fun f hf=>?_⟩
  .obtain⟨i,hi,rfl⟩:=zeq hq
   exact zrz hn YU hI hm (by omega)
  .obtain⟨i,hi,rfl⟩:=waK.1 hf
   have h1:=hI.sound hb (n+i) (by omega) (by omega);rw[hI.val i (by omega),hm,show n+i-n=i by omega]at h1;rw[zpA (n:=n) (fun v hv=>zyi (n:=n) (by rw[Zc];exact en) hv) (Es _ hf)];unfold moF at h1;have h2:fs.getD i ([],0)=fs[i]:=by rw[waC,waa hi];rfl
   have h3:smQ (fun j=>((coM fs[i].1 j:Int):Rat)*ptR (fnG S.n S.va) j) n=smQ (fun j=>aOf fs i j*S.va j) n:=Yd fun j hj=>by
    unfold aOf ptR;rw[h2,zom (by omega)]
   rw[h2]at h1;rw[h3];have h4:((-(fs[i]).2:Int):Rat) = -((fs[i]).2:Rat):=wdJ _;rw[h4]at h1
   grind
 |some r =>
  rw[hb]at hc;obtain⟨hr,Kx,_,_⟩:=hI.broken hb;have Xp:S.column r=none:=by
   cases hc:S.column r with
   |none=>rfl
   |some c=>exfalso;simp[SX.step,hb,hc]at hs
  obtain⟨f1,f2,f3⟩:=zxd hI hb Xp;obtain⟨g,hg⟩:∃ g,g=fnG S.R (Z3 S r S.n):=⟨_,rfl⟩
  have Gc:g.length=fs.length:=by rw[hg,Zc];exact eR
  have Se:∀ q∈g,lQ q<=4*C+K+6:=fun q hq=>by
   rw[hg]at hq;obtain⟨i,hi,rfl⟩:=zeq hq;exact zwQ (by omega) (fun c hc=>by have:=aX_G hn YU hI (i:=r) (j:=c) (by omega) (by omega);omega) _ (Qd _) _
  have Nc:∀ i,i<fs.length->g.getD i 0=Z3 S r n i:=fun i hi=>by rw[hg,zom (by omega),en]
  have Wa:zdh fs n g:=by
   refine⟨fun q hq=>?_,fun v hv=>?_,?_⟩
   .rw[hg]at hq
    obtain⟨i,hi,rfl⟩:=zeq hq;rw[en];exact f1 i
   .refine wcQ ?_ (f2 v hv)
    exact Yd fun i hi=>by rw[Nc i hi];rfl
   .have e:smQ (fun i=>Z3 S r n i*S.mo i) fs.length = -smQ (fun i=>g.getD i 0*((fs.getD i ([],0)).2:Rat)) fs.length:=by
     have e1:smQ (fun i=>Z3 S r n i*S.mo i) fs.length=smQ (fun i=>(-1)*(g.getD i 0*((fs.getD i ([],0)).2:Rat))) fs.length:=Yd fun i hi=>by
      rw[Nc i hi,hm];unfold moF;have h4:((-(fs.getD i ([],0)).2:Int):Rat) = -((fs.getD i ([],0)).2:Rat):=wdJ _;rw[h4];grind
     rw[e1,zcK];grind
    rw[e]at f3
    grind
  change Q9 _ _ _ (TV.tup [zmt,tLR (fnG S.R (Z3 S r S.n)),tB false])at hc;rw[<-hg]at hc;exact .inr ⟨g,Gc,Se,Wa,hc⟩
end
theorem zua{x:List Rat}{p:Nat->Int}(h:∀ v,ptR x v=(p v:Rat))(f:Fm):atQ f (ptR x)=((atF f p:Int):Rat):=by
 have key:∀ l:List Mn,zdq l (ptR x)=((atM l p:Int):Rat):=fun l=>by
  induction l with
  |nil=>rfl
  |cons m l ih =>
   show(m.2:Rat)*ptR x m.1+zdq l (ptR x)=((m.2*p m.1+atM l p:Int):Rat)
   rw[ih,h,wcu,wbV]
 show(f.2:Rat)+zdq f.1 _=((f.2+atM f.1 p:Int):Rat)
 rw[key,wcu]
theorem zdh.sat{ls:List Fm}{n C K:Nat}{g:List Rat}(h:zdh ls n g)(YU:∀ f∈ls,Fv n C K f){p:Nat->Int}(hp:Sat ls p):False:=by
 have e:∀ f∈ls,atQ f (fun v=>if v<n then(p v:Rat)else 0)=((atF f p:Int):Rat):=fun f hf=>by
  have key:∀ l:List Mn,(∀ m∈l,m.1<n)->zdq l (fun v=>if v<n then(p v:Rat)else 0)=((atM l p:Int):Rat):=fun l=>by
   induction l with
   |nil=>intro _;rfl
   |cons m l ih =>
    intro hl;show(m.2:Rat)*(if m.1<n then(p m.1:Rat)else 0)+zdq l _=((m.2*p m.1+atM l p:Int):Rat)
    rw[ih fun x hx=>hl x (waj _ hx),Qc (hl m wam),wcu,wbV]
  show(f.2:Rat)+zdq f.1 _=((f.2+atM f.1 p:Int):Rat)
  rw[key f.1 (YU f hf).lt,wcu]
 refine h.none (fun f hf=>(YU f hf).wf) (p:=fun v=>if v<n then(p v:Rat)else 0) (fun v hv=>Qb (by omega)) fun f hf=>?_
 rw[e f hf];have:=hp f hf
 exact_mod_cast this
abbrev sS(ls:List Fm)(n:Nat):List Go.Abs.T:=[eL cF ls,.lit (.int .i64 (n:Int))]
abbrev sN(ls:List Fm)(n:Nat)(ev:List Fm):List Go.Abs.T:=[eL cF ls,.lit (.int .i64 (n:Int)),eL cF ev]
def eA(xs:List Fm):Go.Abs.T:=.seq (some xs.isEmpty) (xs.map cF)
abbrev sB(lo hi re:List Fm):List Go.Abs.T:=[eL cF lo,eL cF hi,eA re]
def zmg(l:List Mn):TV:=.agg [eL cMn l,.lit (.bool false),.seq (some true) []]
theorem zy9(l:List Mn):eF (l,0) = .agg [eL cMn l,.lit (.bool false),eN []]:=by
 show TV.agg [_,_,eN (dig (0:Int).natAbs)]=_;rw[show(0:Int).natAbs=0 from rfl,Zi];rfl
theorem ziQ(l:List Mn):TVW (zmg l) (eF (l,0)):=by
 rw[zy9];exact .agg (.cons .refl (.cons .refl (.cons .weak .nil)))
theorem Fv.k0{n C K:Nat}{f:Fm}(h:Fv n C K f):Fv n C 0 (f.1,0):=⟨h.wf,h.lt,h.co,by show lN 0<=0;rw[ZI];exact Qd _⟩
theorem ztB{n C K:Nat}(a b:Fm)(hn:n<=1000000)(hC:C<=4000000000)(ha:Fv n C K a)(hb:Fv n C K b):Q9 prog 80 [eF a,eF b] (tB (decide (Yi a b))):=by
 refine QJ QC call80 func80 rfl ntmps80 results80 (by simp) (by decide) ?_;have h1:=zbP (-1) (by decide) (by decide);have XN:=hb.k0;have l1:lN (-1)<=1:=zap (by decide);have h2:=(zkn (b.1,0) (-1) (N:=n) (L:=C) (by omega) (by omega) XN.wf (XN.bd (by omega) (Qd _) (by omega)) (by omega)).tw (.cons (ziQ b.1) (.cons .reflA .nil));have hs:=XN.sc (c:=-1) (D:=1) l1;have h3:=(znU (a.1,0) (scF (b.1,0) (-1)) (N:=n) (L:=C+1) (by omega) (by omega) ha.k0.wf hs.wf (ha.k0.bd (by omega) (by omega) (by omega)) (hs.bd (by omega) (Qd _) (by omega))).tw (.cons (ziQ a.1) (.cons .reflA .nil));unfold zmg at h2 h3;unfold Yi;simp only[go_sem];((repeat(refine Q4 0 rfl ?_;simp only[go_sem]));refine Q3 (h1) rfl ?_;simp only[go_sem];(repeat(refine Q4 0 rfl ?_;simp only[go_sem]));refine Q3 (h2) rfl ?_;simp only[go_sem];(repeat(refine Q4 0 rfl ?_;simp only[go_sem]));refine Q3 (h3) rfl ?_;simp only[go_sem];(repeat(refine Q4 0 rfl ?_;simp only[go_sem])))
theorem zu6{n C K:Nat}(o c:Fm)(hn:n<=1000000)(hC:C<=4000000000)(ho:Fv n C K o)(hc:Fv n C K c) :
  Zf prog 77 [.agg ((cF o).map .t),.one (.ptr PIN 0)] (xF c) (QO (decide (o.1=c.1))) (xF c):=by
 refine zaq QC call77 func77 rfl ntmps77 results77 (by simp) (by decide) ?_ ?_ ?_ ?_ ?_
 .exact zeE
 .exact fun b=>zhB b
 .exact zfE
 .trivial
 .have o1:=(znU (o.1,0) (c.1,0) (N:=n) (L:=C) (by omega) (by omega) ho.k0.wf hc.k0.wf (ho.k0.bd (by omega) (Qd _) (by omega)) (hc.k0.bd (by omega) (Qd _) (by omega))).tw (.cons (ziQ o.1) (.cons (ziQ c.1) .nil))
  have e:decide (((o.1,0):Fm)=(c.1,0))=decide (o.1=c.1):=wax.2 ⟨fun h=>(Prod.mk.inj h).1,fun h=>by rw[h]⟩;rw[e]at o1;unfold zmg at o1;simp only[go_sem,PIN]
  (repeat(refine Qg (by omega) ?_))
  ((repeat(refine Q4 0 rfl ?_;simp only[go_sem,PIN]));refine Q3 (o1) rfl ?_;simp only[go_sem];(repeat(refine Q4 0 rfl ?_;simp only[go_sem,PIN])));refine⟨.inr rfl,(fun x hx=>by obtain rfl:=Qr.1 hx;trivial),rfl,fun b hb=>?_⟩;have hb:1000000<=b:=hb;show(if b=2 then some _ else if b=1000000 then some _ else none)=if b=1000000 then some _ else none
  rw[Qb (by omega)]
theorem zm2(q:QQ){K:Nat}(hK:K<=1800000000)(O5:1<=K)(h1:q.2.1.length<=K)(h2:q.2.2.length<=K):Q9 prog 90 [.agg (cQ q)] (tB (decide (¬(qQ q).den=1))):=by
 refine QJ QC call90 func90 rfl ntmps90 results90 (by simp) (by decide) ?_;have o1:=zwP q.1 q.2.1 q.2.2 (by omega) (by omega);unfold qQ;generalize qv q.1 q.2.1 q.2.2=r at *
 simp only[go_sem];((repeat(refine Q4 0 rfl ?_;simp only[go_sem]));refine Q3 (o1) rfl ?_;simp only[go_sem];(repeat(refine Q4 0 rfl ?_;simp only[go_sem])));try simp
theorem ziR(xs:List Fm)(hl:xs.length<1000000000):zhO prog 143 [.one (.seq (some false) (xs.map cF))] 3 xs.length (Q5 cF xs):=by
 refine zj3 (b:=5) QC call143 func143 rfl ntmps143 results143 (by simp) (by decide) ?_ ?_
 .exact zgT
 simp only[go_sem];refine zkc 5 3 rfl (Qd _) (by simp only[go_sem]<;>decide) (by simp only[go_sem]) (by decide) ?_;simp only[go_sem];refine zay (Qd _) (sz:=3) (bytes:=56) (by simp only[go_sem,QV]<;>decide) ZB [] xs (by simp only[go_sem]<;>rfl) rfl (by simp only[go_sem]<;>rfl) (by simp only[go_sem]<;>rfl) rfl (by simp;omega) (by decide) ?_;simp only[go_sem];exact⟨[],by simp⟩
theorem zlw(ls l:List Fm)(n:Nat)(hne:ls≠[])(h1:ls.length<100000000)(h2:l.length<100000000):Q9 prog 93 [.agg (sS ls n),.one (eL cF l)] (.agg (sS (ls++l) n)):=by
 refine Q9.neA (by simpa using hne) ?_;have fin:∀ {H:QD},H 7=some (Q5 cF (ls++l))->FzA H (AV.agg [C.vec 7 3 0 (ls++l).length,C.t (Abs.T.lit (Value.int IntKind.i64 n))]) (TV.agg (sS (ls++l) n)):=fun h=>zjI (.cons (zjr ZB h rfl) (.cons .t .nil))
 refine QJ QC call93 func93 rfl ntmps93 results93 (by simp) (by decide) ?_;simp only[go_sem];refine zdG 9 rfl ?_;refine QN.take' 3 rfl (by decide +kernel) (by decide +kernel) (by decide +kernel) (by simp only[go_sem]) (zdx rfl) ?_;refine QN.take' 0 rfl (by decide +kernel) (by decide +kernel) (by decide +kernel) (by simp only[go_sem]) (zj0 rfl (by simp only[go_sem]) (by simp only[go_sem]) (by simp only[go_sem]) (by simp only[go_sem]) (by simp only[go_sem]) (by simp only[go_sem])) ?_;refine QN.take' 5 rfl (by decide +kernel) (by decide +kernel) (by decide +kernel) (by simp only[go_sem]) (zj0 rfl (by simp only[go_sem]) (by simp only[go_sem]) (by simp only[go_sem]) (by simp only[go_sem]) (by simp only[go_sem]) (by simp only[go_sem])) ?_;simp only[go_sem];refine QN.two' 1 6 (by decide +kernel) rfl rfl (by simp only[go_sem]) (by simp only[go_sem]) ?_ ?_
 .simp only[go_sem]
  refine QN.two' 2 6 (by decide +kernel) rfl rfl (by simp only[go_sem]) (by simp only[go_sem]) ?_ ?_
  .simp only[go_sem]
   refine zf3 7 (.inr rfl) (ziR ls (by omega)) (by first|rfl|(simp only[go_sem]<;>rfl)) (by simp only[go_sem]) (by decide) ?_
   (try simp only[go_sem])
   refine QN.two' 4 6 (by decide +kernel) rfl rfl (by simp only[go_sem]) (by simp only[go_sem]) ?_ ?_
   .simp only[go_sem]
    refine zay (Qd _) (sz:=3) (bytes:=56) (by simp only[go_sem,QV]<;>decide) ZB ls l (by simp only[go_sem]<;>rfl) rfl (by simp only[go_sem]<;>rfl) (by simp only[go_sem]<;>rfl) rfl (by simp;omega) (by decide) ?_
    (try simp only[go_sem])
    refine QN.ord [0,1,2,3,4,5] 0 [6,7,8] (by decide +kernel) (by decide +kernel) (by decide +kernel) (by decide +kernel) (by decide +kernel) (by decide) ?_;simp only[Zn,wbj,wbk,wa2,wa7,wa3];simp only[go_sem];exact fin (by simp only[go_sem])
   .simp only[go_sem]
    refine QN.ord [0,1,2,3,5,6] 2 [4,7,8] (by decide +kernel) (by decide +kernel) (by decide +kernel) (by decide +kernel) (by decide +kernel) (by decide) ?_;simp only[Zn,wbj,wbk,wa2,wa7,wa3];simp only[go_sem];refine zay (Qd _) (sz:=3) (bytes:=56) (by simp only[go_sem,QV]<;>decide) ZB ls l (by simp only[go_sem]<;>rfl) rfl (by simp only[go_sem]<;>rfl) (by simp only[go_sem]<;>rfl) rfl (by simp;omega) (by decide) ?_;simp only[go_sem];exact fin (by simp only[go_sem])
  .simp only[go_sem]
   refine QN.ord [0,1,3,5,6] 2 [2,4,7,8] (by decide +kernel) (by decide +kernel) (by decide +kernel) (by decide +kernel) (by decide +kernel) (by decide) ?_;simp only[Zn,wbj,wbk,wa2,wa7,wa3];simp only[go_sem];refine zf3 7 (.inr rfl) (ziR ls (by omega)) (by first|rfl|(simp only[go_sem]<;>rfl)) (by simp only[go_sem]) (by decide) ?_;simp only[go_sem];refine zay (Qd _) (sz:=3) (bytes:=56) (by simp only[go_sem,QV]<;>decide) ZB ls l (by simp only[go_sem]<;>rfl) rfl (by simp only[go_sem]<;>rfl) (by simp only[go_sem]<;>rfl) rfl (by simp;omega) (by decide) ?_;simp only[go_sem];exact fin (by simp only[go_sem])
 .simp only[go_sem]
  refine QN.ord [0,3,5,6] 2 [1,2,4,7,8] (by decide +kernel) (by decide +kernel) (by decide +kernel) (by decide +kernel) (by decide +kernel) (by decide) ?_;simp only[Zn,wbj,wbk,wa2,wa7,wa3];simp only[go_sem];refine zf3 7 (.inr rfl) (ziR ls (by omega)) (by first|rfl|(simp only[go_sem]<;>rfl)) (by simp only[go_sem]) (by decide) ?_;simp only[go_sem];refine zay (Qd _) (sz:=3) (bytes:=56) (by simp only[go_sem,QV]<;>decide) ZB ls l (by simp only[go_sem]<;>rfl) rfl (by simp only[go_sem]<;>rfl) (by simp only[go_sem]<;>rfl) rfl (by simp;omega) (by decide) ?_;simp only[go_sem];exact fin (by simp only[go_sem])
theorem zc5{n C K:Nat}{f:Fm}(h:Fv n C K f)(hn:n<=1000000)(hC:max C K<=4000000000)(v:Nat):Q9 prog 144 [eF f,tI .i64 v] (eI (coM f.1 v)):=by
 have:=zuH f v (N:=n) (L:=max C K) (by omega) (by omega) h.wf (h.bd hn (wbK _ _) (wbG _ _))
 rwa[zwv]at this
theorem zqu(v:Nat)(ls:List Fm){n C K:Nat}(hn:n<=1000000)(hC:max C K<=4000000000)(hv:v<1000000)(hl:ls.length<1000000000)(h:∀ f∈ls,Fv n C K f):Q9 prog 145 [tI .i64 v,.one (eL cF ls)] (tB (decide (zb4 v ls))):=by
 refine QJ QC call145 func145 rfl ntmps145 results145 (by simp) (by decide) ?_;have h1:=zbP 1 (by decide) (by decide);simp only[go_sem];refine QK (fun i:Nat=>stL 21 [(0,litI .i64 v),(7,.one (.t (eL cF ls))),(8,litI .i64 ls.length),(9,litI .i64 i)] []) (fun i=>i<=ls.length/\zb4 v (ls.take i)) (fun i=>ls.length-i) 0 ?_ ⟨Qk _,by rw[wao];intro m hm;cases hm⟩ ?_
 ·(refine Q7 rfl ?_ ?_ ?_ ?_<;>(try simp only[go_sem])<;>(try simp))
 .rintro i ⟨hi,Yy⟩
  simp only[go_sem];refine QI (fun Yw=>?_) (fun YG=>?_)
  .have Yv:i<ls.length:=by omega
   have Y1:QM cF ls i=cF ls[i]:=Q8 Yv;have hf:=h _ (Qh Yv);have hc:=zc5 hf hn hC v;have lc:=hf.lco v;have ha:=zv2 (coM ls[i].1 v) (by omega);have hs:=ziJ ((coM ls[i].1 v).natAbs:Int) 1 (by rw[zhp];omega) (wbZ zcL (by decide));have Xf:¬((coM ls[i].1 v).natAbs:Int)=1->decide (zb4 v ls)=false:=fun h=>wad fun hf=>h (by have:=hf _ (Qh Yv);omega)
   have Yx:((coM ls[i].1 v).natAbs:Int)=1->zb4 v (ls.take (i+1)):=fun h m hm=>by
    rw[Zd Yv]at hm;rcases wan.1 hm with hm|hm
    .exact Yy m hm
    .obtain rfl:=Qr.1 hm;omega
   generalize ((coM ls[i].1 v).natAbs:Int)=y at *
   generalize coM ls[i].1 v=x at *
   generalize ls[i]=l at *
   simp only[go_sem,Y1,Yw]
   (repeat(refine Qg (by omega) ?_))
   by_cases c:y=1
   .have hs:=zbV hs c
    ((repeat(refine Q4 0 rfl ?_;simp only[go_sem]));refine Q3 (hc) rfl ?_;simp only[go_sem];(repeat(refine Q4 0 rfl ?_;simp only[go_sem]));refine Q3 (ha) rfl ?_;simp only[go_sem];(repeat(refine Q4 0 rfl ?_;simp only[go_sem]));refine Q3 (h1) rfl ?_;simp only[go_sem];(repeat(refine Q4 0 rfl ?_;simp only[go_sem]));refine Q3 (hs) rfl ?_;simp only[go_sem];(repeat(refine Q4 0 rfl ?_;simp only[go_sem])));refine⟨i+1,⟨Yv,Yx c⟩,(by show ls.length-(i+1)<ls.length-i;omega),?_⟩
    (refine Q7 rfl ?_ ?_ ?_ ?_<;>(try simp only[go_sem,Q6 (n:=(i:Int)+1) (by omega) (by omega)])<;>(try simp))
   .have hs:=zcf hs c
    rw[Xf c];((repeat(refine Q4 0 rfl ?_;simp only[go_sem]));refine Q3 (hc) rfl ?_;simp only[go_sem];(repeat(refine Q4 0 rfl ?_;simp only[go_sem]));refine Q3 (ha) rfl ?_;simp only[go_sem];(repeat(refine Q4 0 rfl ?_;simp only[go_sem]));refine Q3 (h1) rfl ?_;simp only[go_sem];(repeat(refine Q4 0 rfl ?_;simp only[go_sem]));refine Q3 (hs) rfl ?_;simp only[go_sem];(repeat(refine Q4 0 rfl ?_;simp only[go_sem])));try rfl
  .obtain rfl:i=ls.length:=by omega
   rw[Q1]at Yy;rw[waA Yy];simp only[go_sem];try rfl
theorem zn3(v:Nat)(lo hi re:List Fm){n C K:Nat}(hn:n<=1000000)(hC:max C K<=4000000000)(hv:v<1000000)(hl:lo.length<1000000000)(WS:hi.length<1000000000)(h:∀ f∈lo,Fv n C K f)(h2:∀ f∈hi,Fv n C K f) :
  Q9 prog 96 [.agg (sB lo hi re),tI .i64 v] (tB (decide (exV v lo hi))):=by
 refine QJ QC call96 func96 rfl ntmps96 results96 (by simp) (by decide) ?_;have o1:=zqu v lo hn hC hv hl h;have o2:=zqu v hi hn hC hv WS h2;unfold exV;by_cases c:zb4 v lo
 .have o1:=zbV o1 c
  rw[waA (Or.inl c:zb4 v lo\/zb4 v hi)];simp only[go_sem];((repeat(refine Q4 0 rfl ?_;simp only[go_sem]));refine Q3 (o1) rfl ?_;simp only[go_sem];(repeat(refine Q4 0 rfl ?_;simp only[go_sem])));try rfl
 .have o1:=zcf o1 c
  rw[show decide (zb4 v lo\/zb4 v hi)=decide (zb4 v hi)from wax.2 ⟨fun h=>h.resolve_left c,.inr⟩];simp only[go_sem];((repeat(refine Q4 0 rfl ?_;simp only[go_sem]));refine Q3 (o1) rfl ?_;simp only[go_sem];(repeat(refine Q4 0 rfl ?_;simp only[go_sem]));refine Q3 (o2) rfl ?_;simp only[go_sem];(repeat(refine Q4 0 rfl ?_;simp only[go_sem])));try rfl
theorem zwu{H:QD}{b:Nat}{xs:List Fm}(hb:xs=[]\/H b=some (Q5 cF xs)):FzC H (QX b 3 xs) (eA xs):=by
 cases xs with
 |nil=>exact .t
 |cons x xs =>
  rcases hb with hb|hb
  .cases hb
  .have:=zjr (n:=(x::xs).length) ZB hb rfl
   cases this with
   |vec h1 h2 h3 h4 h5 h6=>exact .vec (show some false≠some true by decide) h2 h3 h4 h5 h6
def zfx(v:Nat)(lo hi:List Fm):Int:=(lo.length*hi.length:Int)-lo.length-hi.length+(if exV v lo hi then 0 else 3600)
theorem zpi(v:Nat)(lo hi re:List Fm){n C K:Nat}(hn:n<=1000000)(hC:max C K<=4000000000)(hv:v<1000000)(hl:lo.length<100000000)(WS:hi.length<100000000)(h:∀ f∈lo,Fv n C K f)(h2:∀ f∈hi,Fv n C K f) :
  Q9 prog 95 [.agg (sB lo hi re),tI .i64 v] (tI .i64 (zfx v lo hi)):=by
 refine QJ QC call95 func95 rfl ntmps95 results95 (by simp) (by decide) ?_;have o1:=zn3 v lo hi re hn hC hv (by omega) (by omega) h h2;have hm:(lo.length:Int)*hi.length<=10000000000000000:=by
  have h1:lo.length*hi.length<=100000000*100000000:=waB (by omega) (by omega);have h2:((lo.length*hi.length:Nat):Int)=(lo.length:Int)*hi.length:=wbY _ _;omega
 have WR:0<=(lo.length:Int)*hi.length:=Int.mul_nonneg (by omega) (by omega);unfold zfx;obtain⟨M,hM⟩:∃ M:Int,M=(lo.length:Int)*hi.length:=⟨_,rfl⟩
 rw[<-hM]at hm WR ⊢;have e1:IntKind.wrap .i64 ((lo.length:Int)*hi.length)=M:=by rw[<-hM];exact Q6 (by omega) (by omega)
 obtain⟨A,hA⟩:∃ A:Int,A=M-lo.length:=⟨_,rfl⟩
 obtain⟨B,hB⟩:∃ B:Int,B=A-hi.length:=⟨_,rfl⟩
 obtain⟨D,hD⟩:∃ D:Int,D=B+3600:=⟨_,rfl⟩
 have e2:IntKind.wrap .i64 (M-lo.length)=A:=by rw[hA];exact Q6 (by omega) (by omega)
 have e3:IntKind.wrap .i64 (A-hi.length)=B:=by rw[hB];exact Q6 (by omega) (by omega)
 have e4:IntKind.wrap .i64 (B+3600)=D:=by rw[hD];exact Q6 (by omega) (by omega)
 rw[<-hA,<-hB];by_cases c:exV v lo hi
 .have o1:=zbV o1 c
  rw[Qc c,wa9];clear hM hA hB hD;simp only[go_sem,e1,e2,e3];((repeat(refine Q4 0 rfl ?_;simp only[go_sem,e1,e2,e3]));refine Q3 (o1) rfl ?_;simp only[go_sem];(repeat(refine Q4 0 rfl ?_;simp only[go_sem,e1,e2,e3])))
 .have o1:=zcf o1 c
  rw[Qb c,<-hD];clear hM hA hB hD;simp only[go_sem,e1,e2,e3];((repeat(refine Q4 0 rfl ?_;simp only[go_sem,e1,e2,e3,e4]));refine Q3 (o1) rfl ?_;simp only[go_sem,e4];(repeat(refine Q4 0 rfl ?_;simp only[go_sem,e1,e2,e3,e4])))
theorem ztj{ls:List Fm}{v i:Nat}(h:i<ls.length):QU (ls.take (i+1)) v=QU (ls.take i) v++(if coM ls[i].1 v<0 then[ls[i]]else[]):=by
 unfold QU;rw[Zd h,wdn,wcF];simp
theorem zsE{ls:List Fm}{v i:Nat}(h:i<ls.length):QR (ls.take (i+1)) v=QR (ls.take i) v++(if 0<coM ls[i].1 v then[ls[i]]else[]):=by
 unfold QR;rw[Zd h,wdn,wcF];simp
theorem zsF{ls:List Fm}{v i:Nat}(h:i<ls.length):ZF (ls.take (i+1)) v=ZF (ls.take i) v++(if coM ls[i].1 v=0 then[ls[i]]else[]):=by
 unfold ZF;rw[Zd h,wdn,wcF];simp
theorem zy2(v:Nat)(ls:List Fm)(m:Nat){n C K:Nat}(hn:n<=1000000)(hC:max C K<=4000000000)(hv:v<1000000)(hl:ls.length<100000000)(h:∀ f∈ls,Fv n C K f) :
  Q9 prog 94 [.agg (sS ls m),tI .i64 v] (.agg (sB (QU ls v) (QR ls v) (ZF ls v))):=by
 refine QJ QC call94 func94 rfl ntmps94 results94 (by simp) (by decide) ?_;simp only[go_sem];refine QK (fun i:Nat=>stL 43 [(1,litI .i64 v),(4,.one (.ptr 4 0)),(5,.one (.ptr 5 0)),(9,.one (.t (eL cF ls))),(10,litI .i64 ls.length),(11,litI .i64 i)]
   (Zb 1000 cF (QU (ls.take i) v)++(Zb 1001 cF (QR (ls.take i) v)++(Zb 1002 cF (ZF (ls.take i) v)++[(4,[.t (.seq (some true) []),.t (.seq (some true) []),.t (.seq (some true) [])]),(5,[QX 1000 3 (QU (ls.take i) v),QX 1001 3 (QR (ls.take i) v),QX 1002 3 (ZF (ls.take i) v)])])))) (fun i=>i<=ls.length) (fun i=>ls.length-i) 0 ?_ (Qk _) ?_
 .rw[wao,show QU [] v=[]from rfl,show QR [] v=[]from rfl,show ZF [] v=[]from rfl]
  (refine Q7 rfl ?_ ?_ ?_ ?_<;>(try simp only[go_sem])<;>(try simp))
 .intro i hi
  simp only[go_sem];refine QI (fun Yw=>?_) (fun YG=>?_)
  .have Yv:i<ls.length:=by omega
   have Y1:QM cF ls i=cF ls[i]:=Q8 Yv;have hf:=h _ (Qh Yv);have hc:=zc5 hf hn hC v;have lc:=hf.lco v;have hs:=zdF (coM ls[i].1 v) (by omega);have e1:=ztj (v:=v) Yv;have e2:=zsE (v:=v) Yv;have e3:=zsF (v:=v) Yv;have h3:=zkt (ls.take i) v;have h4:(ls.take i).length<=ls.length:=by rw[wat];omega
   generalize QU (ls.take i) v=lo at *
   generalize QR (ls.take i) v=hg at *
   generalize ZF (ls.take i) v=re at *
   generalize coM ls[i].1 v=x at *
   generalize ls[i]=l at *
   simp only[go_sem,Y1,Yw]
   (repeat(refine Qg (by omega) ?_))
   refine Q3 hc rfl ?_;simp only[go_sem];refine Q3 hs rfl ?_;rcases wbH x 0 with c|c|c
   .rw[Qc c]at e1
    rw[Qb (by omega),wal]at e2 e3;have s1:(x.sign = -1)=True:=Qf (wcl c);simp only[go_sem,s1];refine ZC (sz:=3) (bytes:=56) (by simp only[go_sem,QV]<;>decide) ZB lo [l] (b:=1000) (by simp only[go_sem]<;>rfl) (by simp only[go_sem]<;>rfl) (by simp only[go_sem]<;>rfl) rfl (by simp) (by simp only[Qe,Qi]at *;omega) (by decide) ?_;simp only[go_sem];refine⟨i+1,Yv,(by show ls.length-(i+1)<ls.length-i;omega),?_⟩
    (refine Q7 rfl ?_ ?_ ?_ ?_<;>(try simp only[go_sem,e1,e2,e3,Q6 (n:=(i:Int)+1) (by omega) (by omega)])<;>(try simp))
   .rw[Qc c]at e3
    rw[Qb (by omega),wal]at e1 e2;have s1:(x.sign = -1)=False:=Ql (by rw[c];decide);have s2:(x.sign=1)=False:=Ql (by rw[c];decide);simp only[go_sem,s1,s2];refine ZC (sz:=3) (bytes:=56) (by simp only[go_sem,QV]<;>decide) ZB re [l] (b:=1002) (by simp only[go_sem]<;>rfl) (by simp only[go_sem]<;>rfl) (by simp only[go_sem]<;>rfl) rfl (by simp) (by simp only[Qe,Qi]at *;omega) (by decide) ?_;simp only[go_sem];refine⟨i+1,Yv,(by show ls.length-(i+1)<ls.length-i;omega),?_⟩
    (refine Q7 rfl ?_ ?_ ?_ ?_<;>(try simp only[go_sem,e1,e2,e3,Q6 (n:=(i:Int)+1) (by omega) (by omega)])<;>(try simp))
   .rw[Qc c]at e2
    rw[Qb (by omega),wal]at e1 e3;have s1:(x.sign = -1)=False:=Ql (by rw[wbJ c];decide);have s2:(x.sign=1)=True:=Qf (wbJ c);simp only[go_sem,s1,s2];refine ZC (sz:=3) (bytes:=56) (by simp only[go_sem,QV]<;>decide) ZB hg [l] (b:=1001) (by simp only[go_sem]<;>rfl) (by simp only[go_sem]<;>rfl) (by simp only[go_sem]<;>rfl) rfl (by simp) (by simp only[Qe,Qi]at *;omega) (by decide) ?_;simp only[go_sem];refine⟨i+1,Yv,(by show ls.length-(i+1)<ls.length-i;omega),?_⟩
    (refine Q7 rfl ?_ ?_ ?_ ?_<;>(try simp only[go_sem,e1,e2,e3,Q6 (n:=(i:Int)+1) (by omega) (by omega)])<;>(try simp))
  .obtain rfl:i=ls.length:=by omega
   rw[Q1];simp only[go_sem];exact zjI (.cons (zdX ZB (by simp only[go_sem])) (.cons (zdX ZB (by simp only[go_sem])) (.cons (zwu (by simp only[go_sem])) .nil)))
end Go.Proofs.YtlgjjcmljmjenaaGreat
