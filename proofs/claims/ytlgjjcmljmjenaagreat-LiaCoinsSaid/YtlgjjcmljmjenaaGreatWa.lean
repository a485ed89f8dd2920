/- At every input the call answers true and leaves its arguments as they were; no conditions. -/
import Derived.Test.YtlgjjcmljmjenaaGreatPa
import Derived.Test.YtlgjjcmljmjenaaGreatNa
import Derived.Test.YtlgjjcmljmjenaaGreatUc
import Derived.Test.YtlgjjcmljmjenaaGreatUd
import Derived.Test.YtlgjjcmljmjenaaGreatNb
import Derived.Test.YtlgjjcmljmjenaaGreatDb
import Derived.Test.YtlgjjcmljmjenaaGreatCc
import Derived.Test.YtlgjjcmljmjenaaGreatCd
import Derived.Test.YtlgjjcmljmjenaaGreatHb
import Derived.Test.YtlgjjcmljmjenaaGreatAk
set_option linter.unusedSimpArgs false
set_option linter.unusedVariables false
set_option maxRecDepth 100000
set_option maxHeartbeats 16000000
namespace Go.Proofs.YtlgjjcmljmjenaaGreat
open Go Go.Abs Go.Proofs.Tryz
def Sat(ls:List Fm)(p:Nat->Int):Prop:=∀ f∈ls,atF f p<=0
structure Fv(n C K:Nat)(f:Fm):Prop where
 wf:WF f
 lt:∀ m∈f.1,m.1<n
 co:∀ m∈f.1,lN m.2<=C
 ko:lN f.2<=K
theorem zgG:∀ {l:List Mn} {k n:Nat},WM k l->(∀ m∈l,m.1<n)->l.length<=n-k
 |[],_,_,_,_=>Qk _
 |m::l,k,n,w,h=>by
  have h1:=zgG w.2.2 fun m hm=>h m (wal _ hm)
  have h2:=h m wam;have h3:=w.1;show l.length+1<=n-k;omega
theorem Fv.bd{n C K L:Nat}{f:Fm}(h:Fv n C K f)(hn:n<=1000000)(hC:C<=L)(hK:K<=L):Bd n L f :=
 ⟨by have:=zgG h.wf h.lt;omega,fun m hm=>⟨by have:=h.lt m hm;omega,Qo (h.co m hm) hC⟩,Qo h.ko hK⟩
theorem Fv.mono{n C K n' C' K':Nat}{f:Fm}(h:Fv n C K f)(hn:n<=n')(hC:C<=C')(hK:K<=K'):Fv n' C' K' f :=
 ⟨h.wf,fun m hm=>wbf (h.lt m hm) hn,fun m hm=>Qo (h.co m hm) hC,Qo h.ko hK⟩
theorem Sat.cons{f:Fm}{ls:List Fm}{p:Nat->Int}:Sat (f::ls) p↔atF f p<=0/\Sat ls p:=Qs
theorem Sat.nil{p:Nat->Int}:Sat [] p:=fun f hf=>by cases hf
theorem Sat.app{a b:List Fm}{p:Nat->Int}:Sat (a++b) p↔Sat a p/\Sat b p:=List.forall_mem_append
def zaL:List Fm->Fm->List Fm
 |[],c=>[c]
 |o::l,c=>if o.1=c.1 then(if o.2<c.2 then c::l else o::l)else o::zaL l c
theorem znT{c:Fm}:∀ {out:List Fm},(∀ q∈out,¬q.1=c.1)->zaL out c=out++[c]
 |[],_=>rfl
 |o::l,h=>by
  rw[zaL,Qb (h o wam),znT fun q hq=>h q (wal _ hq)];rfl
theorem znU{c:Fm}:∀ {out:List Fm} {k:Nat} (hk:k<out.length),out[k].1=c.1->(∀ q∈out.take k,¬q.1=c.1)->zaL out c=if out[k].2<c.2 then out.set k c else out
 |o::l,0,hk,h,_=>by
  have h:o.1=c.1:=h;rw[zaL,Qc h];rfl
 |o::l,k+1,hk,h,hq=>by
  rw[zaL,Qb (hq o (by rw[wcZ];exact wam)),znU (k:=k) (Nat.lt_of_succ_lt_succ hk) h fun q hm=>hq q (by rw[wcZ];exact wal _ hm)];have Nc:k<l.length:=Nat.lt_of_succ_lt_succ hk;show _=if(l[k]'Nc).2<c.2 then o::l.set k c else o::l
  split<;>rfl
theorem zlf{c:Fm}:∀ {out:List Fm},∀ f∈zaL out c,f=c\/f∈out
 |[],f,h=>.inl (Qr.1 h)
 |o::l,f,h=>by
  rw[zaL]at h;split at h
  .split at h
   .rcases wad.1 h with h|h
    .exact .inl h
    .exact .inr (wal _ h)
   .exact .inr h
  .rcases wad.1 h with h|h
   .exact .inr (h▸wam)
   .rcases zlf f h with h|h
    .exact .inl h
    .exact .inr (wal _ h)
theorem zo4{c:Fm}:∀ {out:List Fm},(zaL out c).length<=out.length+1
 |[]=>Qd _
 |o::l=>by
  rw[zaL];have:=zo4 (c:=c) (out:=l);split
  .split<;>simp
  .simp only[Qe];omega
theorem zo5{c:Fm}{p:Nat->Int}:∀ {out:List Fm},Sat (zaL out c) p↔Sat out p/\atF c p<=0
 |[]=>by
  rw[zaL,Sat.cons];exact⟨fun h=>⟨Sat.nil,h.1⟩,fun h=>⟨h.2,Sat.nil⟩⟩
 |o::l=>by
  rw[zaL];have ih:=zo5 (c:=c) (p:=p) (out:=l);split
  .rename_i e
   have h1:atF o p=o.2+atM c.1 p:=by rw[atF,e]
   have h2:atF c p=c.2+atM c.1 p:=rfl;split
   .rw[Sat.cons,Sat.cons]
    exact⟨fun h=>⟨⟨by have:=h.1;omega,h.2⟩,h.1⟩,fun h=>⟨h.2,h.1.2⟩⟩
   .rw[Sat.cons]
    exact⟨fun h=>⟨h,by have:=h.1;omega⟩,fun h=>h.1⟩
  .rw[Sat.cons,Sat.cons,ih,and_assoc]
theorem zo6{c:Fm}:∀ {out:List Fm},∃ o∈zaL out c,o.1=c.1/\c.2<=o.2
 |[]=>⟨c,Qr.2 rfl,rfl,wbr _⟩
 |o::l=>by
  rw[zaL];split
  .rename_i e
   split
   .exact⟨c,wam,rfl,wbr _⟩
   .exact⟨o,wam,e,by omega⟩
  .obtain⟨x,h1,h2⟩:=zo6 (c:=c) (out:=l)
   exact⟨x,wal _ h1,h2⟩
theorem zo7{c x:Fm}:∀ {out:List Fm},x∈out->∃ o∈zaL out c,o.1=x.1/\x.2<=o.2
 |o::l,hx=>by
  rw[zaL];split
  .rename_i e
   split
   .rcases wad.1 hx with h|h
    .exact⟨c,wam,by rw[h,e],by rw[h];omega⟩
    .exact⟨x,wal _ h,rfl,wbr _⟩
   .exact⟨x,hx,rfl,wbr _⟩
  .rcases wad.1 hx with h|h
   .exact⟨o,wam,by rw[h],by rw[h];exact wbr _⟩
   .obtain⟨y,h1,h2⟩:=zo7 (c:=c) h
    exact⟨y,wal _ h1,h2⟩
def zdA(out:List Fm)(a:Fm):List Fm:=if clF a=1 then zaL out (ZR a)else out
def Zu(ls:List Fm):List Fm:=ls.foldl zdA []
theorem zf7(ls:List Fm)(a:Fm):Zu (ls++[a])=zdA (Zu ls) a:=by unfold Zu;rw[wch];rfl
def okN(ls:List Fm):Prop:=∀ a∈ls,¬clF a=3
theorem zlg{P:Fm->Prop}{ls:List Fm}(h:∀ a∈ls,clF a=1->P (ZR a)):∀ {i:Nat},∀ f∈Zu (ls.take i),P f:=by
 intro i
 induction i with
 |zero=>intro f hf;cases hf
 |succ i ih =>
  intro f hf;by_cases hi:i<ls.length
  .rw[Zl hi,zf7]at hf
   unfold zdA at hf;split at hf
   .rename_i hc
    rcases zlf f hf with rfl|hf
    .exact h _ (Qf hi) hc
    .exact ih f hf
   .exact ih f hf
  .rw[waM (by omega)]at hf
   rw[waM (by omega)]at ih;exact ih f hf
theorem zlh(ls:List Fm):∀ i,(Zu (ls.take i)).length<=i
 |0=>Qd _
 |i+1=>by
  have ih:=zlh ls i;by_cases hi:i<ls.length
  .rw[Zl hi,zf7]
   unfold zdA;split
   .have:=zo4 (c:=ZR ls[i]) (out:=Zu (ls.take i));omega
   .omega
  .rw[waM (by omega)]at ih ⊢;omega
theorem znV(ls:List Fm):(Zu ls).length<=ls.length:=by
 have:=zlh ls ls.length
 rwa[waa]at this
theorem zi9{ls:List Fm}(hw:∀ a∈ls,WF a)(ho:okN ls)(p:Nat->Int):Sat (Zu ls) p↔Sat ls p:=by
 have key:∀ i,i<=ls.length->(Sat (Zu (ls.take i)) p↔Sat (ls.take i) p):=fun i=>by
  induction i with
  |zero=>intro _;exact⟨fun _=>Sat.nil,fun _=>Sat.nil⟩
  |succ i ih =>
   intro hi;rw[Zl (by omega),zf7,Sat.app,<-ih (by omega)];have h1:=hw _ (Qf (show i<ls.length by omega));have h2:=ho _ (Qf (show i<ls.length by omega));generalize ls[i]=a at *
   have h3:Sat [a] p↔atF a p<=0:=⟨fun h=>h a (Qr.2 rfl),fun h f hf=>by rw[Qr.1 hf];exact h⟩
   rw[h3];unfold zdA;split
   .rw[zo5,norm_holds h1]
   .rename_i hc
    rcases cl3 a with h|h|h
    .exact Qn h hc
    .exact⟨fun h'=>⟨h',h.2 p⟩,fun h'=>h'.1⟩
    .exact Qn h.1 h2
 have:=key ls.length (Qd _)
 rwa[waa]at this
theorem zqa{ls:List Fm}{p:Nat->Int}(h:Sat ls p):okN ls:=fun a ha hc=>by
 rcases cl3 a with h1|h1|h1
 .omega
 .omega
 .exact h1.2 p (h a ha)
theorem zns{ls:List Fm}{a:Fm}(ha:a∈ls)(hc:clF a=1):∃ o∈Zu ls,o.1=(ZR a).1/\(ZR a).2<=o.2:=by
 have key:∀ i,i<=ls.length->∀ j (hj:j<i) (h:j<ls.length),clF ls[j]=1->∃ o∈Zu (ls.take i),o.1=(ZR ls[j]).1/\(ZR ls[j]).2<=o.2:=fun i=>by
  induction i with
  |zero=>intro _ j hj;omega
  |succ i ih =>
   intro hi j hj KA Oh;rw[Zl (by omega),zf7];by_cases e:j=i
   .subst e
    unfold zdA;rw[Qc Oh];exact zo6
   .obtain⟨o,h1,h2,h3⟩:=ih (by omega) j (by omega) KA Oh
    unfold zdA;split
    .obtain⟨y,h4,h5,h6⟩:=zo7 (c:=ZR ls[i]) h1
     exact⟨y,h4,h5.trans h2,Int.le_trans h3 h6⟩
    .exact⟨o,h1,h2,h3⟩
 obtain⟨j,hj,rfl⟩:=waQ.1 ha;have:=key ls.length (Qd _) j hj hj hc
 rwa[waa]at this
def Ym(a b:Fm):Prop:=((a.1,0):Fm)=scF (b.1,0) (-1)
instance (a b:Fm):Decidable (Ym a b):=by unfold Ym;exact inferInstance
def evJ(a:Fm):List Fm->List Fm
 |[]=>[]
 |b::l=>if Ym a b/\a.2+b.2=0 then a::evJ a l else evJ a l
theorem zo8(a b:Fm):∀ l:List Fm,evJ a (l++[b])=evJ a l++(if Ym a b/\a.2+b.2=0 then[a]else[])
 |[]=>by
  show evJ a [b]=_;rw[evJ,evJ];split<;>rfl
 |c::l=>by
  rw[wb9,evJ,evJ,zo8 a b l];split<;>rfl
theorem zjx{a:Fm}:∀ {l:List Fm},∀ e∈evJ a l,e=a/\∃ b∈l,Ym a b/\a.2+b.2=0
 |b::l,e,h=>by
  rw[evJ]at h;split at h
  .rename_i hc
   rcases wad.1 h with h|h
   .exact⟨h,b,wam,hc⟩
   .obtain⟨h1,c,h2,h3⟩:=zjx e h
    exact⟨h1,c,wal _ h2,h3⟩
  .obtain⟨h1,c,h2,h3⟩:=zjx e h
   exact⟨h1,c,wal _ h2,h3⟩
theorem zq1{a b:Fm}:∀ {l:List Fm},b∈l->Ym a b->a.2+b.2=0->evJ a l≠[]
 |c::l,hb,h1,h2=>by
  rw[evJ];split
  .simp
  .rename_i hc
   rcases wad.1 hb with h|h
   .subst h;exact(hc ⟨h1,h2⟩).elim
   .exact zq1 h h1 h2
def evI(l:List Fm):Nat->List Fm
 |0=>[]
 |i+1=>evI l i++evJ (l.getD i ([],0)) (l.take i)
theorem zlO{l:List Fm}:∀ {i:Nat},i<=l.length->∀ e∈evI l i,e∈l/\∃ b∈l,Ym e b/\e.2+b.2=0
 |0,_,e,h=>by cases h
 |i+1,hi,e,h=>by
  rcases wao.1 h with h|h
  .exact zlO (by omega) e h
  .have hg:l.getD i ([],0)=l[i]:=by rw[waE,wab (by omega)];rfl
   obtain⟨h1,b,h2,h3⟩:=zjx e h;rw[<-h1]at h3;rw[hg]at h1;exact⟨by rw[h1];exact Qf _,b,waU h2,h3⟩
theorem zmg{l:List Fm}{i j:Nat}(hj:j<i)(hi:i<l.length)(h1:Ym l[i] (l[j]'(by omega)))(h2:l[i].2+(l[j]'(by omega)).2=0):∀ {m:Nat},i<m->evI l m≠[]
 |m+1,hm=>by
  rw[evI];by_cases e:i=m
  .have hg:l.getD i ([],0)=l[i]:=by rw[waE,wab hi];rfl
   rw[<-e,hg];have:=zq1 (a:=l[i]) (b:=l[j]'(by omega)) (l:=l.take i) (waQ.2 ⟨j,by simp;omega,by simp⟩) h1 h2;simp[this]
  .have:=zmg hj hi h1 h2 (m:=m) (by omega)
   simp[this]
def okE(l:List Fm):Prop:=∀ i j (hj:j<i) (hi:i<l.length),Ym l[i] (l[j]'(by omega))->l[i].2+(l[j]'(by omega)).2<=0
theorem zqb{a b:Fm}(h:Ym a b)(p:Nat->Int):atF a p+atF b p=a.2+b.2:=by
 have h1:atF ((a.1,0):Fm) p=atF (scF (b.1,0) (-1)) p:=by rw[h]
 rw[zch]at h1;have e1:atF ((a.1,0):Fm) p=atM a.1 p:=wb7 _;have e2:atF ((b.1,0):Fm) p=atM b.1 p:=wb7 _;rw[e1,e2]at h1;have e3:atF a p=a.2+atM a.1 p:=rfl;have e4:atF b p=b.2+atM b.1 p:=rfl;omega
theorem zxr{l:List Fm}{p:Nat->Int}(h:Sat l p):okE l:=fun i j hj hi ht=>by
 have h1:=zqb ht p;have h2:=h _ (Qf hi);have h3:=h _ (Qf (show j<l.length by omega));omega
theorem zt9{l:List Fm}{p:Nat->Int}(h:Sat l p){i:Nat}(hi:i<=l.length){e:Fm}(he:e∈evI l i):atF e p=0:=by
 obtain⟨h1,b,h2,h3,h4⟩:=zlO hi e he;have h5:=zqb h3 p;have h6:=h e h1;have h7:=h b h2;omega
def QU(ls:List Fm)(v:Nat):List Fm:=ls.filter fun f=>decide (coM f.1 v<0)
def QR(ls:List Fm)(v:Nat):List Fm:=ls.filter fun f=>decide (0<coM f.1 v)
def ZH(ls:List Fm)(v:Nat):List Fm:=ls.filter fun f=>decide (coM f.1 v=0)
theorem zbw{ls:List Fm}{v:Nat}{f:Fm}:f∈QU ls v↔f∈ls/\coM f.1 v<0:=by unfold QU;rw[wcg,waA]
theorem zcb{ls:List Fm}{v:Nat}{f:Fm}:f∈QR ls v↔f∈ls/\0<coM f.1 v:=by unfold QR;rw[wcg,waA]
theorem zf3{ls:List Fm}{v:Nat}{f:Fm}:f∈ZH ls v↔f∈ls/\coM f.1 v=0:=by unfold ZH;rw[wcg,waA]
theorem zkF(ls:List Fm)(v:Nat):(QU ls v).length+(QR ls v).length+(ZH ls v).length=ls.length:=by
 induction ls with
 |nil=>rfl
 |cons f l ih =>
  unfold QU QR ZH at *
  rw[wcH,wcH,wcH];rcases wbF (coM f.1 v) 0 with c|c|c
  .rw[Qc (by simpa using c),Qb (by simp;omega),Qb (by simp;omega)];simp only[Qe];omega
  .rw[Qb (by simp;omega),Qb (by simp;omega),Qc (by simpa using c)];simp only[Qe];omega
  .rw[Qb (by simp;omega),Qc (by simpa using c),Qb (by simp;omega)];simp only[Qe];omega
theorem ztH{ls:List Fm}{v:Nat}{p:Nat->Int}(h1:Sat (QU ls v) p)(h2:Sat (QR ls v) p)(h3:Sat (ZH ls v) p):Sat ls p:=fun f hf=>by
 rcases wbF (coM f.1 v) 0 with c|c|c
 .exact h1 f (zbw.2 ⟨hf,c⟩)
 .exact h3 f (zf3.2 ⟨hf,c⟩)
 .exact h2 f (zcb.2 ⟨hf,c⟩)
def sh1(d:Bool)(v:Nat)(l h:Fm):Fm :=
 let c:=QN (scF l (coM h.1 v)) (scF h (-(coM l.1 v)))
 if d=true then QN c (Zd ((-(coM l.1 v)-1)*(coM h.1 v-1)))else c
def shV(d:Bool)(v:Nat)(low VA rest:List Fm):List Fm:=rest++low.flatMap fun l=>VA.map (sh1 d v l)
theorem zqC(d:Bool)(v:Nat)(l h:Fm)(p:Nat->Int):atF (sh1 d v l h) p=atF l p*coM h.1 v+atF h p * -(coM l.1 v)+(if d=true then(-(coM l.1 v)-1)*(coM h.1 v-1)else 0):=by
 unfold sh1;cases d
 .show atF (QN _ _) p=_+0
  rw[zdW,zch,zch];omega
 .show atF (QN (QN _ _) _) p=_
  rw[zdW,zdW,zch,zch,zf9,Qc rfl]
theorem zye{d:Bool}{v:Nat}{l h:Fm}(hl:WF l)(hh:WF h)(j:Nat):coM (sh1 d v l h).1 j=coM h.1 v*coM l.1 j + -(coM l.1 v)*coM h.1 j:=by
 have e:coM (QN (scF l (coM h.1 v)) (scF h (-(coM l.1 v)))).1 j=coM h.1 v*coM l.1 j + -(coM l.1 v)*coM h.1 j:=by
  rw[zgx (zbE hl _) (zbE hh _),zhN,zhN,waz (coM l.1 j),waz (coM h.1 j)]
 unfold sh1;cases d
 .exact e
 .show coM (QN _ _).1 j=_
  rw[zgx (zgw (zbE hl _) (zbE hh _)) (zel _),e];show _+coM [] j=_;rw[coM,wa7]
theorem zqD{l:List Mn}{k v:Nat}(w:WM k l)(h:coM l v≠0):∃ m∈l,m.1=v/\coM l v=m.2:=by
 induction l generalizing k with
 |nil=>exact(h rfl).elim
 |cons x l ih =>
  rw[coM]at h ⊢;split at h
  .rename_i e;exact⟨x,wam,e,by rw[Qc e]⟩
  .rename_i e
   obtain⟨m,h1,h2,h3⟩:=ih w.2.2 h;exact⟨m,wal _ h1,h2,by rw[Qb e];exact h3⟩
theorem zpH{l:List Mn}{k:Nat}(w:WM k l){m:Mn}(h:m∈l):coM l m.1=m.2:=by
 induction l generalizing k with
 |nil=>cases h
 |cons x l ih =>
  rw[coM];rcases wad.1 h with rfl|h
  .rw[Qc rfl]
  .have:=w.2.2.mem _ h
   rw[Qb (by omega)];exact ih w.2.2 h
theorem Fv.co_ge{n C K v:Nat}{f:Fm}(h:Fv n C K f)(hv:n<=v):coM f.1 v=0:=by
 by_cases e:coM f.1 v=0
 .exact e
 .obtain⟨m,h1,h2,_⟩:=zqD h.wf e
  have:=h.lt m h1;omega
theorem Fv.lco{n C K:Nat}{f:Fm}(h:Fv n C K f)(v:Nat):lN (coM f.1 v)<=C:=by
 by_cases e:coM f.1 v=0
 .rw[e,ZG];omega
 .obtain⟨m,h1,_,h3⟩:=zqD h.wf e
  rw[h3];exact h.co m h1
theorem Fv.add{n C K C' K' D E:Nat}{f g:Fm}(hf:Fv n C K f)(hg:Fv n C' K' g)(hD:max C C'+1<=D)(hE:max K K'+1<=E):Fv n D E (QN f g) where
 wf:=zgw hf.wf hg.wf
 lt:=fun m hm=>by
  refine zlo (p:=fun m=>m.1<n) (q:=fun m=>m.1<n) (fun _ h=>h) (fun x y hx _ _=>hx) hf.lt hg.lt m hm
 co:=fun m hm=>by
  refine zlo (p:=fun m=>lN m.2<=max C C') (q:=fun m=>lN m.2<=D) (fun _ h=>by omega) (fun x y hx hy _=>?_) (fun m hm=>by have:=hf.co m hm;omega) (fun m hm=>by have:=hg.co m hm;omega) m hm;have:=za8 x.2 y.2;show lN (x.2+y.2)<=D;omega
 ko:=by
  have:=za8 f.2 g.2;have h1:=hf.ko;have h2:=hg.ko;show lN (f.2+g.2)<=E;omega
theorem Fv.sc{n C K:Nat}{f:Fm}(hf:Fv n C K f){c:Int}{D:Nat}(hc:lN c<=D):Fv n (C+D) (K+D) (scF f c) where
 wf:=zbE hf.wf c
 lt:=fun m hm=>by
  unfold scF at hm;split at hm
  .cases hm
  .obtain⟨x,hx,rfl⟩:=Qp.1 hm
   exact hf.lt x hx
 co:=fun m hm=>by
  unfold scF at hm;split at hm
  .cases hm
  .obtain⟨x,hx,rfl⟩:=Qp.1 hm
   have:=ZS x.2 c;have:=hf.co x hx;show lN (x.2*c)<=_;omega
 ko:=by
  rw[k_sc];have:=ZS f.2 c;have:=hf.ko;omega
theorem Fv.const{n C K:Nat}{k:Int}(h:lN k<=K):Fv n C K (Zd k):=⟨zel k,(fun m hm=>by cases hm),(fun m hm=>by cases hm),h⟩
theorem Fv.var{n v:Nat}(h:v<n):Fv n 1 0 (Zf v):=⟨zjz v,fun m hm=>by rw[Qr.1 hm];exact h,fun m hm=>by rw[Qr.1 hm];exact zcP,by show lN 0<=0;rw[ZG];omega⟩
theorem Fv.zero{n C K:Nat}:Fv n C K ([],0):=⟨trivial,(fun m hm=>by cases hm),(fun m hm=>by cases hm),by show lN 0<=K;rw[ZG];omega⟩
theorem zyf{n C K:Nat}{d:Bool}{v:Nat}{l h:Fm}(hl:Fv n C K l)(hh:Fv n C K h):Fv n (2*C+2) (K+2*C+5) (sh1 d v l h):=by
 have h1:=hl.sc (c:=coM h.1 v) (hh.lco v);have h2:=hh.sc (c:=-(coM l.1 v)) (D:=C) (by rw[Zw];exact hl.lco v);have h3:Fv n (2*C+1) (K+C+1) (QN (scF l (coM h.1 v)) (scF h (-(coM l.1 v)))):=h1.add h2 (by omega) (by omega);unfold sh1;cases d
 .exact h3.mono (Qd _) (by omega) (by omega)
 .refine h3.add (C':=0) (K':=2*C+2) (.const ?_) (by omega) (by omega)
  have a1:=zez (-(coM l.1 v)) 1;have a2:=zez (coM h.1 v) 1;have a3:=ZS (-(coM l.1 v)-1) (coM h.1 v-1);have a4:=hl.lco v;have a5:=hh.lco v;have a6:=zcP;rw[Zw]at a1;by_cases c0:C=0
  .subst c0
   have b1:coM l.1 v=0:=by
    by_cases e:coM l.1 v=0
    .exact e
    .exfalso
     have:=zbo (coM l.1 v);rw[show lN (coM l.1 v)=0 by omega]at this;simp at this;omega
   have b2:coM h.1 v=0:=by
    by_cases e:coM h.1 v=0
    .exact e
    .exfalso
     have:=zbo (coM h.1 v);rw[show lN (coM h.1 v)=0 by omega]at this;simp at this;omega
   rw[b1,b2];exact Qo (ZQ (by decide)) (by omega)
  .omega
theorem zpI(d:Bool)(v:Nat)(low VA rest:List Fm):(shV d v low VA rest).length=rest.length+low.length*VA.length:=by
 unfold shV;rw[Qj];congr 1
 induction low with
 |nil=>simp
 |cons l low ih=>rw[List.flatMap_cons,Qj,ih,Qm,Qe,wa1,wc2]
theorem zgm{d:Bool}{v:Nat}{low VA rest:List Fm}{f:Fm}:f∈shV d v low VA rest↔f∈rest\/∃ l∈low,∃ h∈VA,f=sh1 d v l h:=by
 unfold shV;rw[wao,List.mem_flatMap];constructor
 .rintro(h|⟨l,hl,h⟩)
  .exact .inl h
  .obtain⟨x,hx,rfl⟩:=Qp.1 h
   exact .inr ⟨l,hl,x,hx,rfl⟩
 .rintro(h|⟨l,hl,x,hx,rfl⟩)
  .exact .inl h
  .exact .inr ⟨l,hl,Qp.2 ⟨x,hx,rfl⟩⟩
def Zt(p:Nat->Int)(v:Nat)(t:Int):Nat->Int:=fun i=>if i=v then t else p i
theorem zpJ{l:List Mn}{k v:Nat}(w:WM k l)(h:v<k)(p:Nat->Int)(t:Int):atM l (Zt p v t)=atM l p:=by
 induction l generalizing k with
 |nil=>rfl
 |cons m l ih =>
  have h1:=w.1;rw[atM,atM,ih w.2.2 (by omega)];unfold Zt;rw[Qb (by omega)]
theorem zwK{l:List Mn}{k v:Nat}(w:WM k l)(p:Nat->Int)(t:Int):atM l (Zt p v t)=atM l (Zt p v 0)+coM l v*t:=by
 induction l generalizing k with
 |nil=>rw[atM,atM,coM];omega
 |cons m l ih =>
  rw[atM,atM,coM];by_cases e:m.1=v
  .rw[Qc e,zpJ w.2.2 (by omega),zpJ w.2.2 (by omega)]
   unfold Zt;rw[Qc e,Qc e];omega
  .rw[Qb e,ih w.2.2]
   have:Zt p v t m.1=Zt p v 0 m.1:=by unfold Zt;rw[Qb e,Qb e]
   rw[this];omega
theorem zeC{f:Fm}(w:WF f)(p:Nat->Int)(v:Nat)(t:Int):atF f (Zt p v t)=atF f (Zt p v 0)+coM f.1 v*t:=by
 show f.2+atM f.1 _=f.2+atM f.1 _+_;rw[zwK w];omega
theorem zkG(p:Nat->Int)(v:Nat):Zt p v (p v)=p:=by
 funext i;unfold Zt;split
 .rename_i e;rw[e]
 .rfl
def frA(v:Nat)(p:Nat->Int)(a:Fm):Int:=-(Int.fdiv (-(atF a (Zt p v 0))) (-(coM a.1 v)))
def toA(v:Nat)(p:Nat->Int)(a:Fm):Int:=Int.fdiv (-(atF a (Zt p v 0))) (coM a.1 v)
def frS(v:Nat)(p:Nat->Int)(o:Option Int)(a:Fm):Option Int:=match o with
 |none=>some (frA v p a)
 |some m=>if m<frA v p a then some (frA v p a)else some m
def toS(v:Nat)(p:Nat->Int)(o:Option Int)(a:Fm):Option Int:=match o with
 |none=>some (toA v p a)
 |some m=>if toA v p a<m then some (toA v p a)else some m
def frL(v:Nat)(p:Nat->Int)(l:List Fm):Option Int:=l.foldl (frS v p) none
def toL(v:Nat)(p:Nat->Int)(l:List Fm):Option Int:=l.foldl (toS v p) none
theorem zva(v:Nat)(p:Nat->Int)(l:List Fm)(a:Fm):frL v p (l++[a])=frS v p (frL v p l) a:=by unfold frL;rw[wch];rfl
theorem zvb(v:Nat)(p:Nat->Int)(l:List Fm)(a:Fm):toL v p (l++[a])=toS v p (toL v p l) a:=by unfold toL;rw[wch];rfl
def zh9(fr to:Option Int):Int:=match fr with
 |some f=>f
 |none=>match to with|some t=>t|none=>0
def okV(fr to:Option Int):Prop:=match fr,to with
 |some f,some t=>f<=t
 |_,_=>True
theorem zen(v:Nat)(p:Nat->Int):∀ l:List Fm,match frL v p l with
  |none=>l=[]
  |some m=>(∃ a∈l,m=frA v p a)/\∀ a∈l,frA v p a<=m:=by
 have key:∀ (l:List Fm) (pre:List Fm) (o:Option Int),(match o with
  |none=>pre=[]
  |some m=>(∃ a∈pre,m=frA v p a)/\∀ a∈pre,frA v p a<=m)->match l.foldl (frS v p) o with
  |none=>pre++l=[]
  |some m=>(∃ a∈pre++l,m=frA v p a)/\∀ a∈pre++l,frA v p a<=m:=by
  intro l
  induction l with
  |nil=>intro pre o h;rw[wak];exact h
  |cons a l ih =>
   intro pre o h;have:=ih (pre++[a]) (frS v p o a) (by
    cases o with
    |none =>
     have h:pre=[]:=h;subst h;exact⟨⟨a,Qr.2 rfl,rfl⟩,fun b hb=>by rw[Qr.1 hb];exact wbr _⟩
    |some m =>
     obtain⟨⟨b,hb,e⟩,h2⟩:=h;show match (if m<frA v p a then some (frA v p a)else some m)with|none=>_|some m=>_
     split
     .rename_i Y1
      split at Y1
      .cases Y1
      .cases Y1
     .rename_i m' hm
      split at hm
      .rename_i c
       cases hm
       refine⟨⟨a,wbJ _ (Qr.2 rfl),rfl⟩,fun x hx=>?_⟩;rcases wao.1 hx with hx|hx
       .have:=h2 x hx;omega
       .rw[Qr.1 hx];exact wbr _
      .rename_i c
       cases hm
       refine⟨⟨b,wbY _ hb,e⟩,fun x hx=>?_⟩;rcases wao.1 hx with hx|hx
       .exact h2 x hx
       .rw[Qr.1 hx];omega)
   rw[waN]at this;exact this
 intro l;exact key l [] none rfl
theorem zeo(v:Nat)(p:Nat->Int):∀ l:List Fm,match toL v p l with
  |none=>l=[]
  |some m=>(∃ a∈l,m=toA v p a)/\∀ a∈l,m<=toA v p a:=by
 have key:∀ (l:List Fm) (pre:List Fm) (o:Option Int),(match o with
  |none=>pre=[]
  |some m=>(∃ a∈pre,m=toA v p a)/\∀ a∈pre,m<=toA v p a)->match l.foldl (toS v p) o with
  |none=>pre++l=[]
  |some m=>(∃ a∈pre++l,m=toA v p a)/\∀ a∈pre++l,m<=toA v p a:=by
  intro l
  induction l with
  |nil=>intro pre o h;rw[wak];exact h
  |cons a l ih =>
   intro pre o h;have:=ih (pre++[a]) (toS v p o a) (by
    cases o with
    |none =>
     have h:pre=[]:=h;subst h;exact⟨⟨a,Qr.2 rfl,rfl⟩,fun b hb=>by rw[Qr.1 hb];exact wbr _⟩
    |some m =>
     obtain⟨⟨b,hb,e⟩,h2⟩:=h;show match (if toA v p a<m then some (toA v p a)else some m)with|none=>_|some m=>_
     split
     .rename_i Y1
      split at Y1
      .cases Y1
      .cases Y1
     .rename_i m' hm
      split at hm
      .rename_i c
       cases hm
       refine⟨⟨a,wbJ _ (Qr.2 rfl),rfl⟩,fun x hx=>?_⟩;rcases wao.1 hx with hx|hx
       .have:=h2 x hx;omega
       .rw[Qr.1 hx];exact wbr _
      .rename_i c
       cases hm
       refine⟨⟨b,wbY _ hb,e⟩,fun x hx=>?_⟩;rcases wao.1 hx with hx|hx
       .exact h2 x hx
       .rw[Qr.1 hx];omega)
   rw[waN]at this;exact this
 intro l;exact key l [] none rfl
theorem zeY{x c:Int}(hc:0<c):c*Int.fdiv x c<=x/\x<c*Int.fdiv x c+c:=by
 have h1:=zf8 (x:=x) hc;rw[waz c];omega
theorem zlI{x c t:Int}(hc:0<c)(h:c*t<=x):t<=Int.fdiv x c:=by
 have h1:=zeY (x:=x) hc;refine wcF.1 fun hn=>?_
 have h2:c*(Int.fdiv x c+1)<=c*t:=wbj (by omega) (by omega);rw[wbz,wa4]at h2;omega
theorem fr_holds{a:Fm}(w:WF a){v:Nat}(hc:coM a.1 v<0)(p:Nat->Int)(t:Int):atF a (Zt p v t)<=0↔frA v p a<=t:=by
 rw[zeC w];unfold frA;generalize atF a (Zt p v 0)=A;generalize coM a.1 v=c at *
 have h1:=zeY (x:=-A) (c:=-c) (by omega);constructor
 .intro h
  have:=zlI (x:=-A) (c:=-c) (t:=Int.fdiv (-A) (-c)) (by omega) h1.1;refine wcF.1 fun hn=>?_
  have h2 : -c*(t+1)<=-c * -(Int.fdiv (-A) (-c)):=wbj (by omega) (by omega);rw[wbz,wa4,wb5,wbX]at h2;omega
 .intro h
  have h2 : -c * -(Int.fdiv (-A) (-c))<=-c*t:=wbj h (by omega);rw[wb5,wbX c t]at h2;omega
theorem to_holds{a:Fm}(w:WF a){v:Nat}(hc:0<coM a.1 v)(p:Nat->Int)(t:Int):atF a (Zt p v t)<=0↔t<=toA v p a:=by
 rw[zeC w];unfold toA;generalize atF a (Zt p v 0)=A;generalize coM a.1 v=c at *
 have h1:=zeY (x:=-A) hc;constructor
 .intro h;exact zlI hc (by omega)
 .intro h
  have h2:c*t<=c*Int.fdiv (-A) c:=wbj h (by omega);omega
theorem ztI{ls:List Fm}{v:Nat}{p:Nat->Int}(hw:∀ f∈ls,WF f)(hr:Sat (ZH ls v) p)(YB:okV (frL v p (QU ls v)) (toL v p (QR ls v))):Sat ls (Zt p v (zh9 (frL v p (QU ls v)) (toL v p (QR ls v)))):=by
 have h1:=zen v p (QU ls v);have h2:=zeo v p (QR ls v);refine ztH (v:=v) (fun f hf=>?_) (fun f hf=>?_) fun f hf=>?_
 .obtain⟨k1,k2⟩:=zbw.1 hf
  rw[fr_holds (hw f k1) k2];cases VH:frL v p (QU ls v)with
  |none=>rw[VH]at h1;rw[h1]at hf;cases hf
  |some m=>rw[VH]at h1;exact h1.2 f hf
 .obtain⟨k1,k2⟩:=zcb.1 hf
  rw[to_holds (hw f k1) k2];cases EQ:toL v p (QR ls v)with
  |none=>rw[EQ]at h2;rw[h2]at hf;cases hf
  |some t =>
   rw[EQ]at h2 YB;cases VH:frL v p (QU ls v)with
   |none=>exact h2.2 f hf
   |some m =>
    rw[VH]at YB;have YB:m<=t:=YB;have:=h2.2 f hf;show m<=_;omega
 .obtain⟨k1,k2⟩:=zf3.1 hf
  have h3:=hr f hf;rw[zeC (hw f k1),k2,wbg,wa7];have h4:=zeC (hw f k1) p v (p v);rw[zkG,k2,wbg,wa7]at h4;rw[<-h4];exact h3
theorem zqE{l h:Fm}(hl:WF l)(hh:WF h)(d:Bool)(v:Nat)(p:Nat->Int):atF (sh1 d v l h) p=coM h.1 v*atF l (Zt p v 0) - -(coM l.1 v) * -(atF h (Zt p v 0))+(if d=true then(-(coM l.1 v)-1)*(coM h.1 v-1)else 0):=by
 rw[zqC];have h1:=zeC hl p v (p v);have h2:=zeC hh p v (p v);rw[zkG]at h1 h2;rw[h1,h2];congr 1
 grind
def zb4(v:Nat)(l:List Fm):Prop:=∀ a∈l,(coM a.1 v).natAbs=1
instance (v:Nat) (l:List Fm):Decidable (zb4 v l):=by unfold zb4;exact inferInstance
def exV(v:Nat)(low VA:List Fm):Prop:=zb4 v low\/zb4 v VA
instance (v:Nat) (low VA:List Fm):Decidable (exV v low VA):=by unfold exV;exact inferInstance
theorem zyg{ls:List Fm}{v:Nat}{p:Nat->Int}(hw:∀ f∈ls,WF f)(hs:Sat (shV (!decide (exV v (QU ls v) (QR ls v))) v (QU ls v) (QR ls v) (ZH ls v)) p):okV (frL v p (QU ls v)) (toL v p (QR ls v)):=by
 have h1:=zen v p (QU ls v);have h2:=zeo v p (QR ls v);cases VH:frL v p (QU ls v)with
 |none=>trivial
 |some m =>
  cases EQ:toL v p (QR ls v)with
  |none=>trivial
  |some t =>
   show m<=t;rw[VH]at h1;rw[EQ]at h2;obtain⟨⟨l,hl,hm⟩,_⟩:=h1;obtain⟨⟨h,hh,ht⟩,_⟩:=h2;obtain⟨k1,k2⟩:=zbw.1 hl;obtain⟨k3,k4⟩:=zcb.1 hh;have h3:=hs _ (zgm.2 (.inr ⟨l,hl,h,hh,rfl⟩));rw[zqE (hw l k1) (hw h k3)]at h3;have hd:(-(coM l.1 v)-1)*(coM h.1 v-1)<=-(coM l.1 v) * -(atF h (Zt p v 0))-coM h.1 v*atF l (Zt p v 0):=by
    by_cases e:exV v (QU ls v) (QR ls v)
    .rw[waC e]at h3
     simp only[wc0,wa3,if_false]at h3;have hz:(-(coM l.1 v)-1)*(coM h.1 v-1)=0:=by
      rcases e with e|e
      .have:=e l hl
       rw[show -(coM l.1 v)-1=0 by omega,wbg]
      .have:=e h hh
       rw[show coM h.1 v-1=0 by omega,waI]
     omega
    .rw[wan e]at h3
     simp only[wcX,if_true]at h3;omega
   have hx : -(coM l.1 v)*m<=atF l (Zt p v 0) + -(coM l.1 v)-1:=by
    have:=zeY (x:=-(atF l (Zt p v 0))) (c:=-(coM l.1 v)) (by omega);rw[hm];unfold frA;rw[wb5];omega
   have:=zu2 (by omega) k4 hx hd;rw[ht];exact zlI k4 this
theorem zpK{ls:List Fm}{v:Nat}{p:Nat->Int}(hw:∀ f∈ls,WF f)(hs:Sat ls p):Sat (shV false v (QU ls v) (QR ls v) (ZH ls v)) p:=fun f hf=>by
 rcases zgm.1 hf with hf|⟨l,hl,h,hh,rfl⟩
 .exact hs f (zf3.1 hf).1
 .obtain⟨k1,k2⟩:=zbw.1 hl
  obtain⟨k3,k4⟩:=zcb.1 hh;rw[zqC];have h1:=hs l k1;have h2:=hs h k3;have e1:atF l p*coM h.1 v<=0*coM h.1 v:=wdH h1 (by omega);have e2:atF h p * -(coM l.1 v)<=0 * -(coM l.1 v):=wdH h2 (by omega);rw[wbg]at e1 e2;simp only[wa3,if_false];omega
def zai(v:Nat)(l:List Fm):Int:=l.foldl (fun m h=>if m<coM h.1 v then coM h.1 v else m) 1
theorem zsR(v:Nat)(l:List Fm)(h:Fm):zai v (l++[h])=if zai v l<coM h.1 v then coM h.1 v else zai v l:=by unfold zai;rw[wch];rfl
theorem znh(v:Nat):∀ (l:List Fm) (m:Int),m<=l.foldl (fun m h=>if m<coM h.1 v then coM h.1 v else m) m/\(∀ h∈l,coM h.1 v<=l.foldl (fun m h=>if m<coM h.1 v then coM h.1 v else m) m)/\(l.foldl (fun m h=>if m<coM h.1 v then coM h.1 v else m) m=m\/∃ h∈l,l.foldl (fun m h=>if m<coM h.1 v then coM h.1 v else m) m=coM h.1 v)
 |[],m=>⟨wbr _,(fun h hh=>by cases hh),.inl rfl⟩
 |a::l,m=>by
  obtain⟨h1,h2,h3⟩:=znh v l (if m<coM a.1 v then coM a.1 v else m);rw[wc1];have hm:m<=(if m<coM a.1 v then coM a.1 v else m)/\coM a.1 v<=(if m<coM a.1 v then coM a.1 v else m):=by split<;>omega
  refine⟨Int.le_trans hm.1 h1,fun h hh=>?_,?_⟩
  .rcases wad.1 hh with rfl|hh
   .exact Int.le_trans hm.2 h1
   .exact h2 h hh
  .rcases h3 with h3|⟨h,hh,h3⟩
   .rw[h3]
    split
    .exact .inr ⟨a,wam,rfl⟩
    .exact .inl rfl
   .exact .inr ⟨h,wal _ hh,h3⟩
theorem zir(v:Nat)(l:List Fm):1<=zai v l/\(∀ h∈l,coM h.1 v<=zai v l)/\(zai v l=1\/∃ h∈l,zai v l=coM h.1 v):=znh v l 1
def zcm(v:Nat)(m:Int)(l:Fm):Int:=Int.fdiv (-(coM l.1 v)*m - -(coM l.1 v)-m) m
theorem zvc{ls:List Fm}{v:Nat}{p:Nat->Int}(hw:∀ f∈ls,WF f)(hs:Sat ls p)(hd:¬Sat (shV true v (QU ls v) (QR ls v) (ZH ls v)) p) :
  ∃ l∈QU ls v,∃ i:Int,0<=i/\i<=zcm v (zai v (QR ls v)) l/\atF (QN l (Zd i)) p=0:=by
 have hd:∃ l∈QU ls v,∃ h∈QR ls v,¬atF (sh1 true v l h) p<=0:=waF fun X8=>hd fun f hf=>by
  rcases zgm.1 hf with hf|⟨l,hl,h,hh,rfl⟩
  .exact hs f (zf3.1 hf).1
  .exact waF fun c=>X8 ⟨l,hl,h,hh,c⟩
 obtain⟨l,hl,h,hh,hn⟩:=hd;obtain⟨k1,k2⟩:=zbw.1 hl;obtain⟨k3,k4⟩:=zcb.1 hh;rw[zqE (hw l k1) (hw h k3)]at hn;simp only[if_true]at hn;have h1:=hs l k1;have h2:=hs h k3;have e1:=zeC (hw l k1) p v (p v);have e2:=zeC (hw h k3) p v (p v);rw[zkG]at e1 e2;have hm:=zir v (QR ls v);have hx:coM h.1 v*p v<=-(atF h (Zt p v 0)):=by omega
 have:=zrX (a:=-(coM l.1 v)) (b:=coM h.1 v) (m:=zai v (QR ls v)) (L:=atF l (Zt p v 0)) (H:=-(atF h (Zt p v 0))) (x:=p v) (by omega) k4 (hm.2.1 h hh) hx (by omega);refine⟨l,hl,-(atF l p),by omega,?_,by rw[zdW,zf9];omega⟩;unfold zcm;rw[wcz _ (by omega)];have e3 : -(coM l.1 v)*p v-atF l (Zt p v 0) = -(atF l p):=by rw[e1,wbX];omega
 rw[<-e3];exact this
theorem zpL{v:Nat}{m:Int}{l:Fm}(hm:1<=m)(hl:coM l.1 v<0):zcm v m l < -(coM l.1 v):=by
 unfold zcm;generalize coM l.1 v=c at *
 have h:=zeY (x:=-c*m - -c-m) (c:=m) (by omega);refine Int.not_le.1 fun hn=>?_
 have h2:m * -c<=m*Int.fdiv (-c*m - -c-m) m:=wbj hn (by omega);rw[waz m (-c)]at h2;omega
theorem zpO{c:Fm}:∀ {out:List Fm},out.Pairwise (fun a b=>¬a.1=b.1)->(zaL out c).Pairwise fun a b=>¬a.1=b.1
 |[],_=>List.pairwise_singleton _ _
 |o::l,h=>by
  obtain⟨h1,h2⟩:=wca.1 h;rw[zaL];split
  .rename_i e
   split
   .exact wca.2 ⟨fun b hb=>by rw[<-e];exact h1 b hb,h2⟩
   .exact h
  .rename_i e
   refine wca.2 ⟨fun b hb=>?_,zpO h2⟩;rcases zlf b hb with rfl|hb
   .exact e
   .exact h1 b hb
theorem zpP(ls:List Fm):(Zu ls).Pairwise fun a b=>¬a.1=b.1:=by
 have key:∀ i,(Zu (ls.take i)).Pairwise fun a b=>¬a.1=b.1:=fun i=>by
  induction i with
  |zero=>exact List.Pairwise.nil
  |succ i ih =>
   by_cases hi:i<ls.length
   .rw[Zl hi,zf7]
    unfold zdA;split
    .exact zpO ih
    .exact ih
   .rw[waM (by omega)]at ih ⊢;exact ih
 have:=key ls.length
 rwa[waa]at this
theorem zvg(l:List Mn):scM (-1) (scM (-1) l)=l:=by
 unfold scM;rw[wah]
 conv=>rhs;rw[<-wb4 l]
 refine way fun m _=>?_
 show(m.1,m.2 * -1 * -1)=m;exact Prod.ext rfl (by show m.2 * -1 * -1=m.2;omega)
theorem zge{a b:Fm}:Ym a b↔a.1=scM (-1) b.1:=by
 unfold Ym;rw[zhB (by decide)];constructor
 .intro h;exact congrArg Prod.fst h
 .intro h
  have:(0:Int) * -1=0:=by decide
  rw[h];show(scM (-1) b.1,(0:Int))=(scM (-1) b.1,0 * -1);rw[this]
theorem ziI{a b:Fm}(h:Ym a b):Ym b a:=by
 rw[zge]at h ⊢;rw[h,zvg]
theorem ztK{a b c:Fm}(h:Ym a b)(h':Ym a c):b.1=c.1:=by
 have h1:=zge.1 (ziI h);have h2:=zge.1 (ziI h');rw[h1,h2]
theorem zlJ(a:Fm):∀ {l:List Fm},l.Pairwise (fun a b=>¬a.1=b.1)->(evJ a l).length<=1
 |[],_=>Qk _
 |b::l,h=>by
  obtain⟨h1,h2⟩:=wca.1 h;rw[evJ];split
  .rename_i hc
   have:evJ a l=[]:=by
    rcases he:evJ a l with _|⟨e,t⟩
    .rfl
    .obtain⟨_,c,UC,Ki,_⟩:=zjx e (a:=a) (l:=l) (by rw[he];exact wam)
     exact(h1 c UC (ztK hc.1 Ki)).elim
   rw[this];exact Qd _
  .exact zlJ a h2
theorem zlY{l:List Fm}(h:l.Pairwise (fun a b=>¬a.1=b.1)):∀ i,(evI l i).length<=i
 |0=>Qd _
 |i+1=>by
  have h1:=zlY h i;have h2:=zlJ (l.getD i ([],0)) (l:=l.take i) (h.sublist (List.take_sublist _ _));rw[evI,Qj];omega
theorem zqG(l:List Mn):gM (scM (-1) l)=gM l:=by
 refine Nat.dvd_antisymm ?_ ?_
 .refine weu.1 (zqW fun m hm=>?_)
  have:=zfD (l:=scM (-1) l) (m.1,m.2 * -1) (Qp.2 ⟨m,hm,rfl⟩);have h2:(gM (scM (-1) l):Int)∣m.2 * -1:=this
  rwa[wb5,wa4,Int.dvd_neg]at h2
 .refine weu.1 (zqW fun m hm=>?_)
  obtain⟨x,hx,rfl⟩:=Qp.1 hm;show(gM l:Int)∣x.2 * -1;rw[wb5,wa4,Int.dvd_neg];exact zfD x hx
theorem zrG{g x:Int}(hg:g≠0)(h:g∣x):Int.fdiv (x * -1) g=Int.fdiv x g * -1:=by
 obtain⟨q,rfl⟩:=h;rw[wbI,wcL _ hg,wcL _ hg]
theorem ztL{f:Fm}(w:WF f)(hne:f.1≠[]):Ym (ZR f) (ZR (scF f (-1)))/\0<=(ZR f).2+(ZR (scF f (-1))).2:=by
 have hg:=zj3 w hne;have EU:(gM f.1:Int)≠0:=by omega
 have e1:scF f (-1)=(scM (-1) f.1,f.2 * -1):=zhB (by decide);have NC:scM (-1) f.1≠[]:=by
  intro h;apply hne;exact web.1 h
 rw[e1];unfold ZR;rw[Qb hne,Qb NC];refine⟨zge.2 ?_,?_⟩
 .show nrM (gM f.1:Int) f.1=scM (-1) (nrM (gM (scM (-1) f.1):Int) (scM (-1) f.1))
  rw[zqG];unfold nrM scM;rw[wah,wah];refine way fun m hm=>?_
  show(m.1,_)=(m.1,Int.fdiv (m.2 * -1) (gM f.1:Int) * -1)
  rw[zrG EU (zfD m hm)];exact Prod.ext rfl (by show Int.fdiv m.2 _=Int.fdiv m.2 _ * -1 * -1;omega)
 .show 0<=-(Int.fdiv (-f.2) (gM f.1:Int)) + -(Int.fdiv (-(f.2 * -1)) (gM (scM (-1) f.1):Int))
  rw[zqG];have hp:(0:Int)<(gM f.1:Int):=by omega
  have h1:=(zeY (x:=-f.2) hp).1;have h2:=(zeY (x:=-(f.2 * -1)) hp).1;generalize Int.fdiv (-f.2) (gM f.1:Int)=x at *
  generalize Int.fdiv (-(f.2 * -1)) (gM f.1:Int)=y at *
  generalize (gM f.1:Int)=g at *
  refine wcF.1 fun hn=>?_
  have h3:g*1<=g*(x+y):=wbj (by omega) (by omega);rw[wbz]at h3;omega
theorem ztM{f:Fm}(w:WF f)(hne:f.1≠[]):¬Ym f f:=fun h=>by
 have h:=zge.1 h;unfold WF at w;cases hf:f.1 with
 |nil=>exact hne hf
 |cons m l =>
  rw[hf]at h w;have h1:m::l=(m.1,m.2 * -1)::scM (-1) l:=h;have h2:=congrArg (fun l:List Mn=>(l.headD (0,0)).2) h1;have h3:m.2=m.2 * -1:=h2;exact w.2.1 (by omega)
theorem zgn{f:Fm}:clF f=1↔f.1≠[]:=by
 unfold clF;constructor
 .intro h e;rw[Qc e]at h;split at h<;>omega
 .intro h;rw[Qb h]
theorem ztN{ls:List Fm}(hw:∀ a∈ls,WF a){f:Fm}(h1:f∈ls)(h2:scF f (-1)∈ls)(hne:f.1≠[])(he:okE (Zu ls)):evI (Zu ls) (Zu ls).length≠[]:=by
 have wf:=hw f h1;have NC:(scF f (-1)).1≠[]:=by
  rw[zhB (by decide)];intro h;apply hne;exact web.1 h
 obtain⟨o1,Dz,t1,k1⟩:=zns h1 (zgn.2 hne);obtain⟨o2,EV,t2,k2⟩:=zns h2 (zgn.2 NC);obtain⟨ht,hs⟩:=ztL wf hne;have Wv:Ym o1 o2:=by rw[zge]at ht ⊢;rw[t1,t2];exact ht
 have SV:0<=o1.2+o2.2:=by omega
 have DA:WF o1/\o1.1≠[]:=by
  unfold WF;rw[t1];exact⟨zp8 wf,fun h=>by
   have e:=zlN f;rw[zgn.2 hne]at e;exact zgn.1 e h⟩
 obtain⟨i,hi,rfl⟩:=waQ.1 Dz;obtain⟨j,hj,rfl⟩:=waQ.1 EV;rcases wd6 i j with c|c|c
 .have h3:=he j i c hj (ziI Wv)
  exact zmg c hj (ziI Wv) (by omega) (by omega)
 .subst c
  exact(ztM DA.1 DA.2 Wv).elim
 .have h3:=he i j c hi Wv
  exact zmg c hi Wv (by omega) (by omega)
def Ys(r:Nat)(G:Nat->Nat->Int)(f:Fm):Prop:=ZN r G (coM f.1)
theorem zqH{g:Int}(hg:g≠0):∀ {l:List Mn},(∀ m∈l,g∣m.2)->∀ v,g*coM (nrM g l) v=coM l v
 |[],_,v=>waI _
 |m::l,h,v=>by
  have ih:=zqH hg (l:=l) (fun x hx=>h x (wal _ hx)) v;show g*coM ((m.1,Int.fdiv m.2 g)::nrM g l) v=coM (m::l) v;rw[coM,coM];split
  .obtain⟨q,hq⟩:=h m wam
   show g*Int.fdiv m.2 g=m.2;rw[hq,wcL _ hg]
  .exact ih
theorem Ys.norm{r:Nat}{G:Nat->Nat->Int}{f:Fm}(w:WF f)(h:Ys r G f):Ys r G (ZR f):=by
 unfold ZR;split
 .exact h
 .rename_i hne
  have hg:=zj3 w hne;have EU:(gM f.1:Int)≠0:=by omega
  refine ZN.div EU ?_;have e:(fun j=>(gM f.1:Int)*coM (nrM (gM f.1:Int) f.1) j)=coM f.1:=funext fun j=>zqH EU zfD j
  show ZN r G (fun j=>(gM f.1:Int)*coM (nrM (gM f.1:Int) f.1) j);rw[e];exact h
theorem Ys.zero{G:Nat->Nat->Int}{f:Fm}(w:WF f)(h:Ys 0 G f):f.1=[]:=by
 unfold WF at w;cases hf:f.1 with
 |nil=>rfl
 |cons m l =>
  rw[hf]at w;have:=h.none m.1;rw[hf,coM,Qc rfl]at this;exact(w.2.1 this).elim
theorem zoH{l:List Mn}{k:Nat}(w:WM k l)(h:∀ v,coM l v=0):l=[]:=by
 cases l with
 |nil=>rfl
 |cons m l =>
  have:=h m.1;rw[coM,Qc rfl]at this;exact(w.2.1 this).elim
theorem zwO{r:Nat}{G:Nat->Nat->Int}{ls:List Fm}{v:Nat}(hw:∀ f∈ls,WF f)(hG:∀ f∈ls,Ys r G f)(hv:∃ f∈ls,coM f.1 v≠0):∃ r' G',r=r'+1/\∀ d,∀ f∈shV d v (QU ls v) (QR ls v) (ZH ls v),Ys r' G' f:=by
 obtain⟨f0,h1,h2⟩:=hv;cases r with
 |zero=>exact(h2 ((hG f0 h1).none v)).elim
 |succ r =>
  obtain⟨G',My⟩:=(hG f0 h1).cut h2;refine⟨r,G',rfl,fun d f hf=>?_⟩;rcases zgm.1 hf with hf|⟨l,hl,h,hh,rfl⟩
  .obtain⟨k1,k2⟩:=zf3.1 hf
   exact My _ k2 (hG f k1)
  .obtain⟨k1,k2⟩:=zbw.1 hl
   obtain⟨k3,k4⟩:=zcb.1 hh;have e:coM (sh1 d v l h).1=fun j=>coM h.1 v*coM l.1 j + -(coM l.1 v)*coM h.1 j:=funext fun j=>zye (hw l k1) (hw h k3) j
   refine My _ ?_ ?_
   .rw[e];show coM h.1 v*coM l.1 v + -(coM l.1 v)*coM h.1 v=0;grind
   .rw[e];exact(hG l k1).comb (hG h k3) _ _
theorem zvh{r:Nat}{G:Nat->Nat->Int}{f:Fm}{i:Int}(w:WF f)(h:Ys r G f):Ys r G (QN f (Zd i)):=by
 have e:coM (QN f (Zd i)).1=coM f.1:=funext fun j=>by
  rw[zgx w (zel i)];show _+coM [] j=_;rw[coM,wa7]
 unfold Ys;rw[e];exact h
theorem zwP{r:Nat}{G:Nat->Nat->Int}{f:Fm}{c:Int}(h:Ys r G f):Ys r G (scF f c):=by
 have e:coM (scF f c).1=fun j=>c*coM f.1 j:=funext fun j=>by rw[zhN,waz]
 unfold Ys;rw[e];exact h.sc c
theorem zoI{n C K:Nat}{f:Fm}(h:Fv n C K f):Ys n (fun i j=>if i=j then 1 else 0) f:=ZN.unit fun j hj=>h.co_ge hj
theorem zoJ{r:Nat}{G:Nat->Nat->Int}{ls:List Fm}(hw:∀ f∈ls,WF f)(hG:∀ f∈ls,Ys r G f):∀ f∈Zu ls,Ys r G f:=by
 have:=zlg (P:=Ys r G) (ls:=ls) (fun a ha _=>(hG a ha).norm (hw a ha)) (i:=ls.length)
 rwa[waa]at this
theorem zy5{n:Nat}{g:Int}{l:List Mn}(h:∀ m∈l,m.1<n):∀ m∈nrM g l,m.1<n:=fun m hm=>by
 obtain⟨x,hx,rfl⟩:=Qp.1 hm;exact h x hx
theorem Fv.norm{n C K:Nat}{f:Fm}(h:Fv n C K f):Fv n (C+1) (K+1) (ZR f):=by
 refine⟨zp8 h.wf,?_,?_,?_⟩
 .unfold ZR
  split
  .exact h.lt
  .exact zy5 h.lt
 .unfold ZR
  split
  .exact fun m hm=>Nat.le_succ_of_le (h.co m hm)
  .intro m hm
   obtain⟨x,hx,rfl⟩:=Qp.1 hm;have h1:=zas x.2 (gM f.1:Int);have h2:=h.co x hx;show lN (Int.fdiv x.2 _)<=_;omega
 .unfold ZR
  split
  .exact Nat.le_succ_of_le h.ko
  .have h1:=zas (-f.2) (gM f.1:Int)
   have h2:=h.ko;rw[Zw]at h1;show lN (-(Int.fdiv (-f.2) _))<=_;rw[Zw];omega
theorem zpQ{n C K:Nat}{ls:List Fm}(h:∀ f∈ls,Fv n C K f):∀ f∈Zu ls,Fv n (C+1) (K+1) f/\f.1≠[]:=by
 have:=zlg (P:=fun f=>Fv n (C+1) (K+1) f/\f.1≠[]) (ls:=ls) (fun a ha hc=>⟨(h a ha).norm,fun e=>by
  have e2:=zlN a;rw[hc]at e2;exact zgn.1 e2 e⟩) (i:=ls.length)
 rwa[waa]at this
theorem zwH{a:List (List RI)}{n e0 k:Nat}(hn:n<=6)(hA:∀ i j,(atW a i j).natAbs<=2^e0)(hk:k=(QG (atW a) n a.length a.length).2):zfu (eeG e0 k/29+1) (atW a) n a.length:=fun r hr=>by
 have hd:=zdb (a:=atW a) (n:=n) (R:=a.length) r;rw[hk];exact zuz ((zi5 hn (fun i j _ _=>hA i j) a.length (Qd _)).2 r hr) hd.1 hd.2
theorem zwI{a:List (List RI)}{b:List RI}{n e0:Nat}(hA:∀ i j,(atW a i j).natAbs<=2^e0)(hb:∀ r,(atR b r).natAbs<=2^e0)(hn:n<=6)(hR:a.length<=8000)(Tb:Nat){S:HX}(hS:S=(QG (atW a) n a.length a.length).1){pv:Nat->Int}(VL:pv=pvS (atW a) n a.length){kk:Nat->Nat}(Ud:kk=fun r=>(QG (atW a) n a.length r).2)
  {k ee Y G:Nat} (hk:k=kk a.length) (EI:ee=eeG e0 k) (hY:Y=(e0+(ee+4)*(k+1))/29+3) (hG:G=(30*Y+(ee+13)*(k+1)+13)/29+1) :
  LBsol S pv kk (atR b) n a.length Tb (ee/29+1) G/\∀ r,r<=a.length->∀ j,lN (ZD S pv kk (atR b) r j)<=Y:=by
 obtain⟨R,KX⟩:∃ R,R=a.length:=⟨_,rfl⟩
 have hW:=fun(i j:Nat) (_:i<a.length) (_:j<n)=>hA i j
 have YK:=(zi5 hn hW a.length (Qd _)).1;have hp:=znD hn hW;have Pa:(QG (atW a) n a.length a.length).2=k:=by rw[hk,Ud]
 rw[Pa,<-hS,<-EI]at YK;rw[<-hS,<-VL,<-Ud]at hp;have Wt:=fun r=>zfa (a:=atW a) (n:=n) (R:=a.length) r
 have Nc:∀ r,kk r<=n/\kk r<=r:=fun r=>by rw[Ud];exact Wt r
 have Ho:∀ r,r<=a.length->kk r<=k:=fun r hr=>by rw[hk];exact hp.shp.mono hr (Qd _)
 have YM:∀ r,r<a.length->(pv r<0/\kk (r+1)=kk r)\/(¬pv r<0/\kk (r+1)=kk r+1):=fun r hr=>by
  rcases hp.row r hr with⟨h1,h2,_⟩|⟨h1,_,_,h2⟩
  .exact .inl ⟨h1,h2⟩
  .exact .inr ⟨by omega,h2⟩
 have WZ:∀ i,i<a.length->0<=pv i->0<S.h i (kk i)/\pv i=(kk i:Int)/\kk i<n:=fun i hi Jk=>by
  rcases hp.row i hi with⟨h1,_⟩|⟨h1,h2,h3,_⟩
  .omega
  .exact⟨h3,h1,h2⟩
 have EJ:∀ r c,r<a.length->c<n->(S.h r c).natAbs<=2^ee:=YK.h;have hy:=zxs (S:=S) (pv:=pv) (kk:=kk) (b:=atR b) (n:=n) (R:=a.length) (H:=2^ee) (B:=2^e0) EJ hb (by omega) (waR (by decide)) (waR (by decide)) (fun r=>(Nc r).1) (by rw[Ud];rfl) YM;have Ri:∀ m,m<=k+1->2^e0*(16*2^ee)^m<=2^(e0+(ee+4)*(k+1)):=fun m hm=>by
  have e1:16*2^ee=2^(ee+4):=by rw[wbl,Qu]
  rw[e1,<-wcr,<-wbl];exact waW (by decide) (wcD (waq _ hm) _)
 obtain⟨yb,VS⟩:∃ yb,yb=e0+(ee+4)*(k+1):=⟨_,rfl⟩
 rw[<-VS]at Ri hY;have Gk:∀ r,r<=a.length->∀ j,lN (ZD S pv kk (atR b) r j)<=yb/29+1:=fun r hr j=>by
  have h1:=(hy r hr).1 j;have h2:=Ri (kk r) (by have:=Ho r hr;omega);exact zdZ (Qo h1 h2)
 have E5:∀ r,r<a.length->lN (zaw S pv kk (atR b) r)<=yb/29+1:=fun r hr=>by
  have h1:=(hy r (by omega)).2 hr;have h2:=Ri (kk r+1) (by have:=Ho r (by omega);omega);exact zdZ (Qo (show(zaw S pv kk (atR b) r).natAbs<=_ by omega) h2)
 have Mg:∀ r c,r<a.length->c<n->lN (S.h r c)<=ee/29+1:=fun r c h1 h2=>zdZ (EJ r c h1 h2)
 have SL:ee/29<=yb/29:=by
  refine Nat.div_le_div_right ?_;rw[VS,wae,wai];omega
 have Pb:Y<=G:=by rw[hG];omega
 have XG:Tb<a.length->lQ (zbZ S pv kk (atR b) Tb)<=Y:=fun hT=>by
  have l1:lN 1<=1:=ZQ (by omega);unfold zbZ;split
  .have h1:=zkw 1 (zaw S pv kk (atR b) Tb+zaw S pv kk (atR b) Tb)
   have h2:=za8 (zaw S pv kk (atR b) Tb) (zaw S pv kk (atR b) Tb);have h3:=E5 Tb hT;omega
  .rename_i hp
   have h1:=zkw 1 (S.h Tb (kk Tb));have h2:=WZ Tb hT (by omega);have h3:=Mg Tb (kk Tb) hT h2.2.2;omega
 refine⟨?_,fun r hr j=>by have:=Gk r hr j;omega⟩;refine⟨Mg,fun r c h1 h2=>zdZ (YK.u r c h1 h2),fun r hr j=>by have:=Gk r hr j;omega,fun r hr=>by have:=E5 r hr;omega,fun hT=>by have:=XG hT;omega,fun hT=>?_⟩;obtain⟨q0,hq⟩:∃ q0,q0=zbZ S pv kk (atR b) Tb:=⟨_,rfl⟩
 rw[<-hq];have Kx:=XG hT;rw[<-hq]at Kx;obtain⟨f,hf⟩:∃ f,f=30*Y:=⟨_,rfl⟩
 have Kn:q0.num.natAbs<=2^f:=by
  have h1:=zaF q0;rw[hf];exact zix (z:=q0.num) (k:=Y) (by omega)
 have Pc:q0.den<=2^f:=by
  have h1:=zbm q0;have:=zix (z:=(q0.den:Int)) (k:=Y) (by omega);rw[hf];omega
 have VH:=zoO (S:=S) (pv:=pv) (kk:=kk) (r:=Tb) (M:=8000) (q0:=q0) (H:=2^ee) (by omega) (fun i hi=>YM i (by omega)) (waR (by decide)) (fun i j hi hj hp=>by
  obtain⟨h1,h2,h3⟩:=WZ i (by omega) hp;rw[h2,wbB];exact EJ j (kk i) (by omega) h3) (fun i hi hp=>by
  obtain⟨h1,h2,h3⟩:=WZ i (by omega) hp;rw[h2,wbB];exact h1) Kn Pc
 obtain⟨g,hg⟩:∃ g,g=f+(ee+13)*(k+1)+13:=⟨_,rfl⟩
 have UD:g/29+1=G:=by rw[hG,hg,hf]
 have Rj:∀ t,kk Tb-kk (Tb-t)<=k:=fun t=>by have:=Ho Tb (by omega);omega
 have Mh:∀ c,c<=k->2^f*(2^ee)^c<=2^g:=fun c hc=>by
  rw[<-wcr,<-wbl];refine waW (by decide) ?_;have h1:ee*c<=ee*k:=waq _ hc;have h2:ee*k<=(ee+13)*(k+1):=wax (by omega) (by omega);omega
 have Mi:∀ c,c<=k->2^f*((8000+1)*2^ee)^c<=2^(f+(ee+13)*k):=fun c hc=>by
  have h1:(8000+1)*2^ee<=2^(ee+13):=by rw[wbl];omega
  refine Qo (waq _ (wcs h1 c)) ?_;rw[<-wcr,<-wbl];exact waW (by decide) (wcD (waq _ hc) _)
 have Hp:8000*(2^ee*2^(f+(ee+13)*k))<=2^g:=by
  have:2^g=2^(f+(ee+13)*k)*(2^ee*2^26):=by
   rw[hg,<-wbl,<-wbl];congr 1;rw[wae,wai];omega
  rw[this,Qu (2^(f+(ee+13)*k)) _,Nat.mul_right_comm,Qu 8000];exact waq _ (by decide)
 have Hq:2^(f+(ee+13)*k)<=2^g:=waW (by decide) (by rw[hg,wae,wai];omega);refine⟨fun t ht j hj=>?_,fun t ht hp d hd=>?_⟩
 .obtain⟨_,D,A,h1,h2,h3,h4⟩:=VH t ht
  rw[h3];have:=zpp (Qo (Qo (h4 j) (Mi _ (Rj t))) Hq) (Qo h2 (Mh _ (Rj t)));omega
 .obtain⟨_,D,A,h1,h2,h3,h4⟩:=VH t (by omega)
  obtain⟨g1,g2,g3⟩:=WZ (Tb-1-t) (by omega) hp;have Us:smQ (fun d=>rsF S pv Tb q0 t (Tb-t+d)*(S.h (Tb-t+d) (pv (Tb-1-t)).toNat:Rat)) d=((smI (fun d=>A (Tb-t+d)*S.h (Tb-t+d) (pv (Tb-1-t)).toNat) d:Int):Rat)/((D:Int):Rat):=by
   rw[<-zo9];exact Yi fun d _=>by rw[h3]
  rw[Us];have JM:=zgl (f:=fun d=>A (Tb-t+d)*S.h (Tb-t+d) (pv (Tb-1-t)).toNat) (K:=2^ee*2^(f+(ee+13)*k)) (n:=d) fun c hc=>by
   rw[wa9,Qu];refine wax ?_ (Qo (h4 _) (Mi _ (Rj t)));rw[g2,wbB];exact EJ _ _ (by omega) g3
  have Hr:d*(2^ee*2^(f+(ee+13)*k))<=8000*(2^ee*2^(f+(ee+13)*k)):=wag _ (by omega);have:=zpp (Qo JM (Qo Hr Hp)) (Qo h2 (Mh _ (Rj t)));omega
def foJ(x:Int)(u:Nat->Int)(k:Nat):Nat->Fm
 |0=>Zd x
 |m+1=>QN (foJ x u k m) (scF (Zf m) (u (k+m)))
theorem zeF{x:Int}{u:Nat->Int}{k:Nat}:∀ m,WF (foJ x u k m)
 |0=>zel x
 |m+1=>zgw (zeF m) (zbE (zjz m) _)
theorem zhI{x:Int}{u:Nat->Int}{k:Nat}(y:Nat->Int):∀ m,atF (foJ x u k m) y=x+smI (fun j=>u (k+j)*y j) m
 |0=>by show atF (Zd x) y=x+0;rw[zf9];omega
 |m+1=>by
  show atF (QN _ _) y=x+(smI _ m+u (k+m)*y m)
  rw[zdW,zhI y m,zch,zqi,waz (y m)];omega
theorem zhJ{x:Int}{u:Nat->Int}{k:Nat}(v:Nat):∀ m,coM (foJ x u k m).1 v=if v<m then u (k+v)else 0
 |0=>rfl
 |m+1=>by
  show coM (QN _ _).1 v=_;rw[zgx (zeF m) (zbE (zjz m) _),zhJ v m,zhN,zxC];by_cases e:m=v
  .subst e;rw[Qb (wa8 m),Qc rfl,Qc (waO m)];omega
  .rw[Qb e]
   by_cases c:v<m
   .rw[Qc c,Qc (by omega)];omega
   .rw[Qb c,Qb (by omega)];omega
def nwL(fo:Nat->Fm)(k:Int)(l:List Mn):Fm:=l.foldl (fun o m=>QN o (scF (fo m.1) m.2)) (Zd k)
theorem zoY(fo:Nat->Fm)(k:Int)(l:List Mn)(m:Mn):nwL fo k (l++[m])=QN (nwL fo k l) (scF (fo m.1) m.2):=by unfold nwL;rw[wch];rfl
theorem zoZ(fo:Nat->Fm)(y:Nat->Int):∀ (l:List Mn) (o:Fm),atF (l.foldl (fun o m=>QN o (scF (fo m.1) m.2)) o) y=atF o y+atM l fun v=>atF (fo v) y
 |[],o=>by show atF o y=atF o y+0;omega
 |m::l,o=>by
  rw[wc1,zoZ fo y l,zdW,zch,atM,waz];omega
theorem zqX(fo:Nat->Fm)(k:Int)(l:List Mn)(y:Nat->Int):atF (nwL fo k l) y=atF (l,k) fun v=>atF (fo v) y:=by
 unfold nwL;rw[zoZ,zf9];rfl
theorem zjv:∀ {l:List Mn} {k n:Nat},WM k l->(∀ m∈l,m.1<n)->∀ p:Nat->Int,atM l p=smI (fun v=>coM l v*p v) n
 |[],_,n,_,_,p=>by
  exact(zcx fun i _=>wbg _).symm
 |m::l,k,n,w,h,p=>by
  have ih:=zjv w.2.2 (fun x hx=>h x (wal _ hx)) p;have hm:=h m wam;have e:smI (fun v=>coM (m::l) v*p v) n=smI (fun v=>(if v=m.1 then m.2*p v else 0)+coM l v*p v) n:=Zp fun v _=>by
   rw[coM];by_cases c:m.1=v
   .rw[Qc c,Qc c.symm,zgh w.2.2 (by omega)];omega
   .rw[Qb c,Qb (fun h=>c h.symm)];omega
  rw[e,zfl,<-ih,zb9 (f:=fun v=>if v=m.1 then m.2*p v else 0) hm (fun j _ hj=>Qb hj),Qc rfl];rfl
theorem zo0{fo:Nat->Fm}(v:Nat):∀ (l:List Mn) (o:Fm),WF o->(∀ m∈l,WF (fo m.1))->coM (l.foldl (fun o m=>QN o (scF (fo m.1) m.2)) o).1 v=coM o.1 v+atM l fun i=>coM (fo i).1 v
 |[],o,_,_=>by show coM o.1 v=coM o.1 v+0;omega
 |m::l,o,ho,h=>by
  have hm:=h m wam;rw[wc1,zo0 v l _ (zgw ho (zbE hm _)) fun x hx=>h x (wal _ hx),zgx ho (zbE hm _),zhN,atM,waz];omega
theorem zyy{fo:Nat->Fm}{k:Int}{l:List Mn}{n c:Nat}(w:WM c l)(hl:∀ m∈l,m.1<n)(h:∀ i,WF (fo i))(v:Nat):coM (nwL fo k l).1 v=smI (fun i=>coM l i*coM (fo i).1 v) n:=by
 unfold nwL;rw[zo0 v l _ (zel k) fun m _=>h m.1,zjv w hl];show coM [] v+_=_;rw[coM];omega
theorem zme{fo:Nat->Fm}{n n' C K U X:Nat}{f:Fm}(h:Fv n C K f)(Rm:∀ i,i<n->Fv n' U X (fo i)):∀ m,m<=f.1.length->Fv n' (U+C+m) (max K (X+C)+m) (nwL fo f.2 (f.1.take m))
 |0,_=>Fv.const (by have:=h.ko;omega)
 |m+1,hm=>by
  rw[Zl (by omega),zoY];have hx:=h.lt _ (Qf (show m<f.1.length by omega));have hc:=h.co _ (Qf (show m<f.1.length by omega));exact(zme h Rm m (by omega)).add ((Rm _ hx).sc hc) (by omega) (by omega)
def evA(n:Nat)(ev:List Fm):List (List RI):=ev.map fun e=>fnG n fun j=>Yw (coM e.1 j)
def evB(ev:List Fm):List RI:=ev.map fun e=>Yw (-e.2)
theorem zcN(n:Nat)(ev:List Fm):(evA n ev).length=ev.length:=Qm _
theorem zjO{n:Nat}{ev:List Fm}{r:Nat}(hr:r<ev.length){j:Nat}(hj:j<n):atW (evA n ev) r j=coM ev[r].1 j:=by
 rw[zmd (by rw[zcN];exact hr)];simp only[evA,Qq];rw[zgF (by rw[Zj];exact hj),za4,zhG]
theorem zqY{ev:List Fm}{r:Nat}(hr:r<ev.length):atR (evB ev) r = -(ev[r].2):=by
 unfold evB;rw[zgF (by rw[Qm];exact hr)];simp only[Qq];rw[zhG]
theorem zxj{n C K:Nat}{ev:List Fm}(h:∀ f∈ev,Fv n C K f)(i j:Nat):(atW (evA n ev) i j).natAbs<=2^(30*C):=by
 refine zix ?_;by_cases hi:i<ev.length
 .by_cases hj:j<n
  .rw[zjO hi hj];exact(h _ (Qf hi)).lco j
  .rw[zmd (by rw[zcN];exact hi)]
   simp only[evA,Qq];rw[zjM (by rw[Zj];omega),ZG];omega
 .rw[zyt (by rw[zcN];omega),ZG];omega
theorem zxk{n C K:Nat}{ev:List Fm}(h:∀ f∈ev,Fv n C K f)(i:Nat):(atR (evB ev) i).natAbs<=2^(30*K):=by
 refine zix ?_;by_cases hi:i<ev.length
 .rw[zqY hi,Zw];exact(h _ (Qf hi)).ko
 .rw[zjM (by unfold evB;rw[Qm];omega),ZG];omega
section
variable {n:Nat} {T:List Fm} {ev:List Fm} {S:HX} {pv:Nat->Int} {kk:Nat->Nat} {R k:Nat}
def foS(S:HX)(pv:Nat->Int)(kk:Nat->Nat)(b:Nat->Int)(n R:Nat)(i:Nat):Fm:=foJ (zfP S pv kk b n R i) (S.u i) (kk R) (n-kk R)
def zh1(S:HX)(pv:Nat->Int)(kk:Nat->Nat)(b:Nat->Int)(n R:Nat)(T:List Fm):List Fm:=T.map fun c=>nwL (foS S pv kk b n R) c.2 c.1
theorem zgu{f:Fm}{p q:Nat->Int}(h:∀ m∈f.1,p m.1=q m.1):atF f p=atF f q:=by
 have key:∀ l:List Mn,(∀ m∈l,p m.1=q m.1)->atM l p=atM l q:=fun l=>by
  induction l with
  |nil=>intro _;rfl
  |cons m l ih=>intro h;rw[atM,atM,h m wam,ih fun x hx=>h x (wal _ hx)]
 show f.2+_=f.2+_;rw[key f.1 h]
theorem zo1{b:Nat->Int}{y:Nat->Int}:Sat (zh1 S pv kk b n R T) y↔Sat T fun v=>atF (foS S pv kk b n R v) y:=by
 unfold zh1;constructor
 .intro h f hf
  have:=h _ (Qp.2 ⟨f,hf,rfl⟩);rw[zqX]at this;exact this
 .intro h f hf
  obtain⟨c,hc,rfl⟩:=Qp.1 hf;rw[zqX];exact h c hc
theorem znR{C K:Nat}(hT:∀ f∈T,Fv n C K f)(YL:∀ e∈ev,e∈T){p:Nat->Int}(h0:∀ e∈ev,atF e p=0):∀ r,r<(evA n ev).length->smI (fun j=>atW (evA n ev) r j*p j) n=atR (evB ev) r:=fun r hr=>by
 rw[zcN]at hr;have hf:=hT _ (YL _ (Qf hr));have h1:=h0 _ (Qf hr);rw[zqY hr,Zp fun j hj=>by rw[zjO hr hj],<-zjv hf.wf hf.lt];have h2:atF ev[r] p=ev[r].2+atM ev[r].1 p:=rfl;omega
theorem zxl{C K:Nat}(hT:∀ f∈T,Fv n C K f)(YL:∀ e∈ev,e∈T)(hp:Piv S n (evA n ev).length kk pv)(hi:InvH (atW (evA n ev)) n (evA n ev).length S){p:Nat->Int}(hs:Sat T p)(h0:∀ e∈ev,atF e p=0):∃ y,Sat (zh1 S pv kk (atR (evB ev)) n (evA n ev).length T) y:=by
 obtain⟨y,hy⟩:=zwG hp hi (znR hT YL h0);refine⟨y,zo1.2 fun f hf=>?_⟩;have e:atF f (fun v=>atF (foS S pv kk (atR (evB ev)) n (evA n ev).length v) y)=atF f p:=zgu fun m hm=>by
  show atF (foJ _ _ _ _) y=_;rw[zhI,<-hy m.1 ((hT f hf).lt m hm)]
 rw[e];exact hs f hf
theorem zvH{C K r:Nat}{G:Nat->Nat->Int}(hT:∀ f∈T,Fv n C K f)(YL:∀ e∈ev,e∈T)(hp:Piv S n (evA n ev).length kk pv)(hi:InvH (atW (evA n ev)) n (evA n ev).length S)(hG:∀ f∈T,Ys r G f) :
  ∃ r' G',r'+kk (evA n ev).length=r/\∀ f∈zh1 S pv kk (atR (evB ev)) n (evA n ev).length T,Ys r' G' f:=by
 obtain⟨R,hR⟩:∃ R,R=(evA n ev).length:=⟨_,rfl⟩
 rw[<-hR]at hp hi ⊢;obtain⟨Tm,Lx⟩:∃ Tm:(Nat->Int)->Nat->Int,Tm=fun w c=>smI (fun v=>w v*(if c<n then S.u v c else 0)) n:=⟨_,rfl⟩
 have Oa:∀ w c,c<n->Tm w c=smI (fun v=>w v*S.u v c) n:=fun w c hc=>by rw[Lx];exact Zp fun v _=>by rw[Qc hc]
 have Ob:∀ w c,n<=c->Tm w c=0:=fun w c hc=>by rw[Lx];exact zcx fun v _=>by rw[Qb (by omega),waI]
 have XS:=(hp.shp.le R (Qd _)).1;obtain⟨r',G',h1,h2⟩:=zp7 (W:=fun w=>∃ f∈T,w=coM f.1) (T:=Tm) (r:=r) (G:=fun i j=>smI (fun v=>G i v*(if j<n then S.u v j else 0)) n) (fun w ⟨f,hf,e⟩=>by rw[Lx,e];exact(hG f hf).map _ n) (kk R) fun j hj=>by
  obtain⟨r,hr,_,hne,hz⟩:=zk3 hp R (Qd _) j hj;have Gn:r<ev.length:=by rw[<-zcN n ev,<-hR];exact hr
  have YG:∀ c,c<n->Tm (coM ev[r].1) c=S.h r c:=fun c hc=>by
   rw[Oa _ _ hc,hi.hau r hr c hc];exact Zp fun v hv=>by rw[zjO Gn hv]
  refine⟨coM ev[r].1,⟨ev[r],YL _ (Qf Gn),rfl⟩,by rw[YG j (by omega)];exact hne,fun c hc=>?_⟩;by_cases XD:c<n
  .rw[YG c XD];exact hz c hc XD
  .exact Ob _ _ (by omega)
 refine⟨r',fun i j=>G' i (j+kk R),h1,fun f hf=>?_⟩;obtain⟨c,hc,rfl⟩:=Qp.1 hf;have h3:=(h2 _ ⟨c,hc,rfl⟩).re fun j=>j+kk R
 have hF:=hT c hc;have e:coM (nwL (foS S pv kk (atR (evB ev)) n R) c.2 c.1).1=fun j=>if j+kk R<kk R then 0 else Tm (coM c.1) (j+kk R):=funext fun j=>by
  rw[Qb (by omega),zyy (fo:=foS S pv kk (atR (evB ev)) n R) hF.wf hF.lt (fun i=>zeF _) j];by_cases hj:j<n-kk R
  .rw[Oa _ _ (by omega)]
   refine Zp fun i _=>?_
   show _*coM (foJ _ _ _ _).1 j=_;rw[zhJ,Qc hj,wc2 (kk R) j]
  .rw[Ob _ _ (by omega)]
   refine zcx fun i _=>?_
   show _*coM (foJ _ _ _ _).1 j=_;rw[zhJ,Qb hj,waI]
 show ZN r' _ (coM _);rw[e];exact h3
theorem zyz{C K:Nat}(hT:∀ f∈ev,Fv n C K f/\f.1≠[])(hne:ev≠[])(hp:Piv S n (evA n ev).length kk pv)(hi:InvH (atW (evA n ev)) n (evA n ev).length S):1<=kk (evA n ev).length:=by
 refine waF fun hc=>?_
 have hk:kk (evA n ev).length=0:=by omega
 have hl:0<ev.length:=wbc.2 hne;have Vr:0<(evA n ev).length:=by rw[zcN];exact hl
 have YG:∀ c,c<n->S.h 0 c=0:=fun c XD=>by
  have h1:=hp.shp.mono (i:=1) (j:=(evA n ev).length) (by omega) (Qd _);have h0:=hp.shp.k0;rcases hp.row 0 Vr with⟨a1,a2,a3⟩|⟨_,_,_,a4⟩
  .by_cases e:c=0
   .subst e
    have:=a3 (by omega)
    rwa[h0]at this
   .exact hp.shp.right 0 c Vr (by omega) XD
  .have a4:kk 1=kk 0+1:=a4
   omega
 obtain⟨hf,Sr⟩:=hT _ (Qf hl);refine Sr (zoH hf.wf fun v=>?_);by_cases hv:v<n
 .have h1:=hi.vx (fun i=>if i=v then 1 else 0) Vr
  rw[zcx fun j hj=>by rw[YG j hj,wbg]]at h1;rw[zb9 (f:=fun i=>atW (evA n ev) 0 i*if i=v then 1 else 0) hv (fun j _ hj=>by rw[Qb hj,waI]),Qc rfl,wa4,zjO hl hv]at h1;exact h1.symm
 .exact hf.co_ge (by omega)
end
def zic:Nat->Nat
 |0=>1
 |j+1=>70*zic j+200
def zal:Nat->Nat
 |0=>8
 |j+1=>zal j*zal j/4+zal j
theorem zt4{i:Nat}:∀ {j:Nat},i<=j->zic i<=zic j
 |0,h=>by
  obtain rfl:i=0:=by omega
  exact Qd _
 |j+1,h=>by
  by_cases e:i=j+1
  .rw[e];exact Qd _
  .have:=zt4 (i:=i) (j:=j) (by omega)
   show zic i<=70*zic j+200;omega
theorem zeZ{i:Nat}:∀ {j:Nat},i<=j->zal i<=zal j
 |0,h=>by
  obtain rfl:i=0:=by omega
  exact Qd _
 |j+1,h=>by
  by_cases e:i=j+1
  .rw[e];exact Qd _
  .have:=zeZ (i:=i) (j:=j) (by omega)
   show zal i<=zal j*zal j/4+zal j;omega
theorem zxa(j:Nat):8<=zal j:=zeZ (i:=0) (Qk _)
theorem zvA(j:Nat):zal j+2<=zal (j+1):=by
 have h:=zxa j;have h2:8*8<=zal j*zal j:=wax h h;show zal j+2<=zal j*zal j/4+zal j;omega
theorem zsV{a b c N:Nat}(h:a+b+c<=N):c+a*b<=N*N/4+N:=by
 have h1:4*(a*b)<=(a+b)*(a+b):=by
  have e:(a+b)*(a+b)=a*a+b*b+2*(a*b):=by rw[war,wae,wae,Qu b a];omega
  rcases Nat.le_total a b with c|c
  .obtain⟨d,rfl⟩:∃ d,b=a+d:=⟨b-a,by omega⟩
   have e2:(a+d)*(a+d)=a*a+2*(a*d)+d*d:=by rw[war,wae,wae,Qu d a];omega
   rw[e,e2,wae];omega
  .obtain⟨d,rfl⟩:∃ d,a=b+d:=⟨a-b,by omega⟩
   have e2:(b+d)*(b+d)=b*b+2*(b*d)+d*d:=by rw[war,wae,wae,Qu d b];omega
   rw[e,e2,war,Qu d b];omega
 have h2:(a+b)*(a+b)<=N*N:=wax (by omega) (by omega);omega
theorem zjK:zal 3=7224/\zal 4=13053768:=by decide
theorem zrq(n C:Nat)(hn:n<=4):(2*((n+1)*BB^C)+1)^n<=BB^(4*C+4):=by
 have h1:2*((n+1)*BB^C)+1<=BB^(C+1):=by
  have hp:1<=BB^C:=waR (by decide);have h2:(n+1)*BB^C<=5*BB^C:=wag _ (by omega);have h3:11*BB^C<=BB*BB^C:=wag _ (by decide);rw[waJ,Qu (BB^C)];omega
 refine Qo (wcs h1 n) ?_;rw[<-wcr];refine waW (by decide) ?_;have:(C+1)*n<=(C+1)*4:=waq _ hn;omega
section
variable {fs:List Fm} {n C K V:Nat} {S:SX}
theorem zp1(YY:∀ f∈fs,Fv n C K f)(i j:Nat):(coM (fs.getD i ([],0)).1 j).natAbs<=BB^C:=by
 rcases wau i fs.length with h|h
 .rw[waE,wab h]
  exact Nat.le_of_lt (wbf (zbo _) (waW (by decide) ((YY _ (Qf h)).lco j)))
 .rw[waE,wcC h]
  exact Qk _
theorem zjZ{a b:Nat}(h:a<=BB^b):a<BB^(b+1):=wbV h (Nat.pow_lt_pow_right (by decide) (by omega))
theorem aX_G(hn:n<=4)(YY:∀ f∈fs,Fv n C K f)(h:InvX (aOf fs) n fs.length S){i j:Nat}(hi:i<fs.length)(hj:j<n):lQ (S.a i j)<=4*C+5:=by
 obtain⟨h1,h2⟩:=zzd (fun i j=>coM (fs.getD i ([],0)).1 j) (B:=BB^C) (waR (by decide)) (fun i j _ _=>zp1 YY i j) h hi hj;have h3:=zrq n C hn;exact zgH (zbS (zjZ (Qo h1 h3))) (zbS (zjZ (Qo (by simpa using h2) h3)))
theorem koF(YY:∀ f∈fs,Fv n C K f)(i:Nat):lN (-(fs.getD i ([],0)).2)<=K:=by
 rw[Zw];rcases wau i fs.length with h|h
 .rw[waE,wab h];exact(YY _ (Qf h)).ko
 .rw[waE,wcC h]
  show lN 0<=K;rw[ZG];omega
theorem zrr(YY:∀ f∈fs,Fv n C K f)(h:InvX (aOf fs) n fs.length S)(hm:S.mo=moF fs){c:Nat}(hc:c<n):∃ b:Int,S.va (S.cl c)=(b:Rat)/\lN b<=K:=by
 rw[h.nb c hc];split
 .exact⟨0,rfl,by rw[ZG];omega⟩
 .rw[hm]
  exact⟨_,rfl,koF YY _⟩
theorem zrs(hn:n<=4)(YY:∀ f∈fs,Fv n C K f)(h:InvX (aOf fs) n fs.length S)(hm:S.mo=moF fs){v:Nat}(hv:v<n+fs.length):lQ (S.va v)<=4*C+K+6:=by
 rcases h.sur v hv with⟨i,hi,rfl⟩|⟨c,hc,rfl⟩
 .have hb:∀ c,∃ b:Int,c<n->S.va (S.cl c)=(b:Rat)/\b.natAbs<=BB^K:=fun c=>by
   by_cases hc:c<n
   .obtain⟨b,h1,h2⟩:=zrr YY h hm hc
    exact⟨b,fun _=>⟨h1,Nat.le_of_lt (wbf (zbo b) (waW (by decide) h2))⟩⟩
   .exact⟨0,fun h=>Qn h hc⟩
  obtain⟨b,hb⟩:=wdN.1 hb;obtain⟨h1,h2⟩:=zze (fun i j=>coM (fs.getD i ([],0)).1 j) (B:=BB^C) (C:=BB^K) (waR (by decide)) (fun i j _ _=>zp1 YY i j) h b hb hi;have h3:=zrq n C hn;have h4:n*((2*((n+1)*BB^C)+1)^n*BB^K)<=BB*(BB^(4*C+4)*BB^K):=wax (Qo hn (by decide)) (wag _ h3);have h5:BB*(BB^(4*C+4)*BB^K)=BB^(4*C+K+5):=by rw[<-wbl,<-wea];congr 1;omega
  have h6:BB^(4*C+4)<=BB^(4*C+K+5):=waW (by decide) (by omega);refine zgH (zbS (zjZ (Qo h1 (h5▸h4)))) (zbS (zjZ ?_));show(S.va (S.rw i)).den<=_;omega
 .obtain⟨b,h1,h2⟩:=zrr YY h hm hc
  rw[h1];have:=zfo b;omega
theorem zzk(hn:n<=4)(hR:fs.length<=8000)(YY:∀ f∈fs,Fv n C K f)(h:InvX (aOf fs) n fs.length S)(hm:S.mo=moF fs):BdX (4*C+K+6) S:=by
 have en:=h.en;have eR:=h.eR;exact⟨by omega,fun i _=>by
  have h1:=koF YY i;have h2:=zfo (-(fs.getD i ([],0)).2);rw[hm];show lQ ((-(fs.getD i ([],0)).2:Int):Rat)<=_;omega,fun v hv=>by have:=zrs hn YY h hm (v:=v) (by omega);omega,fun i j hi hj=>by have:=aX_G hn YY h (i:=i) (j:=j) (by omega) (by omega);omega,fun i hi=>by have:=h.rlt i (by omega);omega,fun c hc=>by have:=h.clt c (by omega);omega⟩
theorem zoW(fs:List Fm)(n:Nat){C K:Nat}(hn:n<=4)(hd:fs.length<=8000)(YY:∀ f∈fs,Fv n C K f)(hV:4*C+K+6<=400000000) :
  (∃ x:List Rat,x.length=n/\(∀ q∈x,lQ q<=4*C+K+6)/\Q7 prog 34 [.one (eL cF fs),tI .i64 n] (.tup [tLR x,zmF,tB true])/\∀ f∈fs,atQ f (ptR x)<=0) \/
  (∃ g:List Rat,g.length=fs.length/\(∀ q∈g,lQ q<=4*C+K+6)/\zdp fs n g/\Q7 prog 34 [.one (eL cF fs),tI .i64 n] (.tup [zmF,tLR g,tB false])):=by
 have E4:∀ f∈fs,WF f:=fun f hf=>(YY f hf).wf
 have We:=znu fs n;obtain⟨T,hT,hs⟩:=zsh We;have Sf:∀ t,BdX (4*C+K+6) (itX (zcW fs n) t):=fun t=>zzk hn hd YY (zdT We t).1 (zdT We t).2
 have e:(fs.map ZC).map lv=fs:=by
  rw[wah];exact(way (g:=id) fun f hf=>zcf (E4 f hf)).trans (wb4 _)
 have hc:=zvT (fs.map ZC) n (N:=n) (L:=max C K) (by omega) (by rw[Qm];exact hd) (by omega) (by omega) (fun l hl=>by obtain⟨f,hf,rfl⟩:=Qp.1 hl;exact zbC ((YY f hf).bd (by omega) (wbT _ _) (wbO _ _))) T (by rw[e];exact hT) (by rw[e];exact hs) hV (by rw[e];exact fun t _=>Sf t);have ecL:eL cL (fs.map ZC)=eL cF fs:=by
  unfold eL;rw[wah];refine congrArg (Abs.T.seq none) (way fun f _=>?_);show[eL cM (f.1.map eMn),_,_]=_;rw[zjD];rfl
 rw[e,ecL]at hc;have hI:=(zdT We T).1;have hm:=(zdT We T).2;generalize itX (zcW fs n) T=S at *
 have hm:S.mo=moF fs:=hm;have en:=hI.en;have eR:=hI.eR;unfold zmC at hc;cases hb:S.broken with
 |none =>
  rw[hb]at hc;refine .inl ⟨fnG S.n S.va,by rw[Zj];exact en,fun q hq=>?_,hc,fun f hf=>?_⟩
  .obtain⟨i,hi,rfl⟩:=zfb hq
   exact zrs hn YY hI hm (by omega)
  .obtain⟨i,hi,rfl⟩:=waQ.1 hf
   have h1:=hI.sound hb (n+i) (by omega) (by omega);rw[hI.val i (by omega),hm,show n+i-n=i by omega]at h1;rw[zpG (n:=n) (fun v hv=>zyb (n:=n) (by rw[Zj];exact en) hv) (E4 _ hf)];unfold moF at h1;have h2:fs.getD i ([],0)=fs[i]:=by rw[waE,wab hi];rfl
   have h3:smQ (fun j=>((coM fs[i].1 j:Int):Rat)*ptR (fnG S.n S.va) j) n=smQ (fun j=>aOf fs i j*S.va j) n:=Yi fun j hj=>by
    unfold aOf ptR;rw[h2,zoB (by omega)]
   rw[h2]at h1;rw[h3];have h4:((-(fs[i]).2:Int):Rat) = -((fs[i]).2:Rat):=wdO _;rw[h4]at h1
   grind
 |some r =>
  rw[hb]at hc;obtain⟨hr,K9,_,_⟩:=hI.broken hb;have Xq:S.column r=none:=by
   cases hc:S.column r with
   |none=>rfl
   |some c=>exfalso;simp[SX.step,hb,hc]at hs
  obtain⟨f1,f2,f3⟩:=zw1 hI hb Xq;obtain⟨g,hg⟩:∃ g,g=fnG S.R (Z5 S r S.n):=⟨_,rfl⟩
  have Gr:g.length=fs.length:=by rw[hg,Zj];exact eR
  have Sg:∀ q∈g,lQ q<=4*C+K+6:=fun q hq=>by
   rw[hg]at hq;obtain⟨i,hi,rfl⟩:=zfb hq;exact zwF (by omega) (fun c hc=>by have:=aX_G hn YY hI (i:=r) (j:=c) (by omega) (by omega);omega) _ (Qd _) _
  have Nq:∀ i,i<fs.length->g.getD i 0=Z5 S r n i:=fun i hi=>by rw[hg,zoB (by omega),en]
  have Jv:zdp fs n g:=by
   refine⟨fun q hq=>?_,fun v hv=>?_,?_⟩
   .rw[hg]at hq
    obtain⟨i,hi,rfl⟩:=zfb hq;rw[en];exact f1 i
   .refine wcV ?_ (f2 v hv)
    exact Yi fun i hi=>by rw[Nq i hi];rfl
   .have e:smQ (fun i=>Z5 S r n i*S.mo i) fs.length = -smQ (fun i=>g.getD i 0*((fs.getD i ([],0)).2:Rat)) fs.length:=by
     have e1:smQ (fun i=>Z5 S r n i*S.mo i) fs.length=smQ (fun i=>(-1)*(g.getD i 0*((fs.getD i ([],0)).2:Rat))) fs.length:=Yi fun i hi=>by
      rw[Nq i hi,hm];unfold moF;have h4:((-(fs.getD i ([],0)).2:Int):Rat) = -((fs.getD i ([],0)).2:Rat):=wdO _;rw[h4];grind
     rw[e1,zcO];grind
    rw[e]at f3
    grind
  change Q7 _ _ _ (TV.tup [zmF,tLR (fnG S.R (Z5 S r S.n)),tB false])at hc;rw[<-hg]at hc;exact .inr ⟨g,Gr,Sg,Jv,hc⟩
end
theorem zt5{x:List Rat}{p:Nat->Int}(h:∀ v,ptR x v=(p v:Rat))(f:Fm):atQ f (ptR x)=((atF f p:Int):Rat):=by
 have key:∀ l:List Mn,zdz l (ptR x)=((atM l p:Int):Rat):=fun l=>by
  induction l with
  |nil=>rfl
  |cons m l ih =>
   show(m.2:Rat)*ptR x m.1+zdz l (ptR x)=((m.2*p m.1+atM l p:Int):Rat)
   rw[ih,h,wcy,wb1]
 show(f.2:Rat)+zdz f.1 _=((f.2+atM f.1 p:Int):Rat)
 rw[key,wcy]
theorem zdp.sat{ls:List Fm}{n C K:Nat}{g:List Rat}(h:zdp ls n g)(YY:∀ f∈ls,Fv n C K f){p:Nat->Int}(hp:Sat ls p):False:=by
 have e:∀ f∈ls,atQ f (fun v=>if v<n then(p v:Rat)else 0)=((atF f p:Int):Rat):=fun f hf=>by
  have key:∀ l:List Mn,(∀ m∈l,m.1<n)->zdz l (fun v=>if v<n then(p v:Rat)else 0)=((atM l p:Int):Rat):=fun l=>by
   induction l with
   |nil=>intro _;rfl
   |cons m l ih =>
    intro hl;show(m.2:Rat)*(if m.1<n then(p m.1:Rat)else 0)+zdz l _=((m.2*p m.1+atM l p:Int):Rat)
    rw[ih fun x hx=>hl x (wal _ hx),Qc (hl m wam),wcy,wb1]
  show(f.2:Rat)+zdz f.1 _=((f.2+atM f.1 p:Int):Rat)
  rw[key f.1 (YY f hf).lt,wcy]
 refine h.none (fun f hf=>(YY f hf).wf) (p:=fun v=>if v<n then(p v:Rat)else 0) (fun v hv=>Qb (by omega)) fun f hf=>?_
 rw[e f hf];have:=hp f hf
 exact_mod_cast this
abbrev sS(ls:List Fm)(n:Nat):List Go.Abs.T:=[eL cF ls,.lit (.int .i64 (n:Int))]
abbrev sN(ls:List Fm)(n:Nat)(ev:List Fm):List Go.Abs.T:=[eL cF ls,.lit (.int .i64 (n:Int)),eL cF ev]
def eA(xs:List Fm):Go.Abs.T:=.seq (some xs.isEmpty) (xs.map cF)
abbrev sB(lo hi re:List Fm):List Go.Abs.T:=[eL cF lo,eL cF hi,eA re]
def zmq(l:List Mn):TV:=.agg [eL cMn l,.lit (.bool false),.seq (some true) []]
theorem zy1(l:List Mn):eF (l,0) = .agg [eL cMn l,.lit (.bool false),eN []]:=by
 show TV.agg [_,_,eN (dig (0:Int).natAbs)]=_;rw[show(0:Int).natAbs=0 from rfl,Zg];rfl
theorem zi2(l:List Mn):TVW (zmq l) (eF (l,0)):=by
 rw[zy1];exact .agg (.cons .refl (.cons .refl (.cons .weak .nil)))
theorem Fv.k0{n C K:Nat}{f:Fm}(h:Fv n C K f):Fv n C 0 (f.1,0):=⟨h.wf,h.lt,h.co,by show lN 0<=0;rw[ZG];exact Qd _⟩
theorem ztx{n C K:Nat}(a b:Fm)(hn:n<=1000000)(hC:C<=4000000000)(ha:Fv n C K a)(hb:Fv n C K b):Q7 prog 80 [eF a,eF b] (tB (decide (Ym a b))):=by
 refine QH QB call80 func80 rfl ntmps80 results80 (by simp) (by decide) ?_;have h1:=zbP (-1) (by decide) (by decide);have V8:=hb.k0;have l1:lN (-1)<=1:=ZQ (by decide);have h2:=(zky (b.1,0) (-1) (N:=n) (L:=C) (by omega) (by omega) V8.wf (V8.bd (by omega) (Qd _) (by omega)) (by omega)).tw (.cons (zi2 b.1) (.cons .reflA .nil));have hs:=V8.sc (c:=-1) (D:=1) l1;have h3:=(zn9 (a.1,0) (scF (b.1,0) (-1)) (N:=n) (L:=C+1) (by omega) (by omega) ha.k0.wf hs.wf (ha.k0.bd (by omega) (by omega) (by omega)) (hs.bd (by omega) (Qd _) (by omega))).tw (.cons (zi2 a.1) (.cons .reflA .nil));unfold zmq at h2 h3;unfold Ym;simp only[go_sem];((repeat(refine Q3 0 rfl ?_;simp only[go_sem]));refine Q2 (h1) rfl ?_;simp only[go_sem];(repeat(refine Q3 0 rfl ?_;simp only[go_sem]));refine Q2 (h2) rfl ?_;simp only[go_sem];(repeat(refine Q3 0 rfl ?_;simp only[go_sem]));refine Q2 (h3) rfl ?_;simp only[go_sem];(repeat(refine Q3 0 rfl ?_;simp only[go_sem])))
theorem zu0{n C K:Nat}(o c:Fm)(hn:n<=1000000)(hC:C<=4000000000)(ho:Fv n C K o)(hc:Fv n C K c) :
  Ze prog 77 [.agg ((cF o).map .t),.one (.ptr PIN 0)] (xF c) (QO (decide (o.1=c.1))) (xF c):=by
 refine zaq QB call77 func77 rfl ntmps77 results77 (by simp) (by decide) ?_ ?_ ?_ ?_ ?_
 .exact zeG
 .exact fun b=>zhK b
 .exact zfO
 .trivial
 .have o1:=(zn9 (o.1,0) (c.1,0) (N:=n) (L:=C) (by omega) (by omega) ho.k0.wf hc.k0.wf (ho.k0.bd (by omega) (Qd _) (by omega)) (hc.k0.bd (by omega) (Qd _) (by omega))).tw (.cons (zi2 o.1) (.cons (zi2 c.1) .nil))
  have e:decide (((o.1,0):Fm)=(c.1,0))=decide (o.1=c.1):=waG.2 ⟨fun h=>(Prod.mk.inj h).1,fun h=>by rw[h]⟩;rw[e]at o1;unfold zmq at o1;simp only[go_sem,PIN]
  (repeat(refine Qg (by omega) ?_))
  ((repeat(refine Q3 0 rfl ?_;simp only[go_sem,PIN]));refine Q2 (o1) rfl ?_;simp only[go_sem];(repeat(refine Q3 0 rfl ?_;simp only[go_sem,PIN])));refine⟨.inr rfl,(fun x hx=>by obtain rfl:=Qr.1 hx;trivial),rfl,fun b hb=>?_⟩;have hb:1000000<=b:=hb;show(if b=2 then some _ else if b=1000000 then some _ else none)=if b=1000000 then some _ else none
  rw[Qb (by omega)]
theorem znd(q:QQ){K:Nat}(hK:K<=1800000000)(O8:1<=K)(h1:q.2.1.length<=K)(h2:q.2.2.length<=K):Q7 prog 90 [.agg (cQ q)] (tB (decide (¬(qQ q).den=1))):=by
 refine QH QB call90 func90 rfl ntmps90 results90 (by simp) (by decide) ?_;have o1:=zwE q.1 q.2.1 q.2.2 (by omega) (by omega);unfold qQ;generalize qv q.1 q.2.1 q.2.2=r at *
 simp only[go_sem];((repeat(refine Q3 0 rfl ?_;simp only[go_sem]));refine Q2 (o1) rfl ?_;simp only[go_sem];(repeat(refine Q3 0 rfl ?_;simp only[go_sem])));try simp
theorem zi3(xs:List Fm)(hl:xs.length<1000000000):zgK prog 143 [.one (.seq (some false) (xs.map cF))] 3 xs.length (Q5 cF xs):=by
 refine zii (b:=5) QB call143 func143 rfl ntmps143 results143 (by simp) (by decide) ?_ ?_
 .exact zfY
 simp only[go_sem];refine zko 5 3 rfl (Qd _) (by simp only[go_sem]<;>decide) (by simp only[go_sem]) (by decide) ?_;simp only[go_sem];refine zar (Qd _) (sz:=3) (bytes:=56) (by simp only[go_sem,QW]<;>decide) Z9 [] xs (by simp only[go_sem]<;>rfl) rfl (by simp only[go_sem]<;>rfl) (by simp only[go_sem]<;>rfl) rfl (by simp;omega) (by decide) ?_;simp only[go_sem];exact⟨[],by simp⟩
theorem zlG(ls l:List Fm)(n:Nat)(hne:ls≠[])(h1:ls.length<100000000)(h2:l.length<100000000):Q7 prog 93 [.agg (sS ls n),.one (eL cF l)] (.agg (sS (ls++l) n)):=by
 refine Q7.neA (by simpa using hne) ?_;have fin:∀ {H:QE},H 7=some (Q5 cF (ls++l))->FzA H (AV.agg [C.vec 7 3 0 (ls++l).length,C.t (Abs.T.lit (Value.int IntKind.i64 n))]) (TV.agg (sS (ls++l) n)):=fun h=>zjU (.cons (zjC Z9 h rfl) (.cons .t .nil))
 refine QH QB call93 func93 rfl ntmps93 results93 (by simp) (by decide) ?_;simp only[go_sem];refine zde 9 rfl ?_;refine QK.take' 3 rfl (by decide +kernel) (by decide +kernel) (by decide +kernel) (by simp only[go_sem]) (zdD rfl) ?_;refine QK.take' 0 rfl (by decide +kernel) (by decide +kernel) (by decide +kernel) (by simp only[go_sem]) (zkc rfl (by simp only[go_sem]) (by simp only[go_sem]) (by simp only[go_sem]) (by simp only[go_sem]) (by simp only[go_sem]) (by simp only[go_sem])) ?_;refine QK.take' 5 rfl (by decide +kernel) (by decide +kernel) (by decide +kernel) (by simp only[go_sem]) (zkc rfl (by simp only[go_sem]) (by simp only[go_sem]) (by simp only[go_sem]) (by simp only[go_sem]) (by simp only[go_sem]) (by simp only[go_sem])) ?_;simp only[go_sem];refine QK.two' 1 6 (by decide +kernel) rfl rfl (by simp only[go_sem]) (by simp only[go_sem]) ?_ ?_
 .simp only[go_sem]
  refine QK.two' 2 6 (by decide +kernel) rfl rfl (by simp only[go_sem]) (by simp only[go_sem]) ?_ ?_
  .simp only[go_sem]
   refine ze7 7 (.inr rfl) (zi3 ls (by omega)) (by first|rfl|(simp only[go_sem]<;>rfl)) (by simp only[go_sem]) (by decide) ?_
   (try simp only[go_sem])
   refine QK.two' 4 6 (by decide +kernel) rfl rfl (by simp only[go_sem]) (by simp only[go_sem]) ?_ ?_
   .simp only[go_sem]
    refine zar (Qd _) (sz:=3) (bytes:=56) (by simp only[go_sem,QW]<;>decide) Z9 ls l (by simp only[go_sem]<;>rfl) rfl (by simp only[go_sem]<;>rfl) (by simp only[go_sem]<;>rfl) rfl (by simp;omega) (by decide) ?_
    (try simp only[go_sem])
    refine QK.ord [0,1,2,3,4,5] 0 [6,7,8] (by decide +kernel) (by decide +kernel) (by decide +kernel) (by decide +kernel) (by decide +kernel) (by decide) ?_;simp only[Zq,wbh,wbi,waZ,wa6,wa0];simp only[go_sem];exact fin (by simp only[go_sem])
   .simp only[go_sem]
    refine QK.ord [0,1,2,3,5,6] 2 [4,7,8] (by decide +kernel) (by decide +kernel) (by decide +kernel) (by decide +kernel) (by decide +kernel) (by decide) ?_;simp only[Zq,wbh,wbi,waZ,wa6,wa0];simp only[go_sem];refine zar (Qd _) (sz:=3) (bytes:=56) (by simp only[go_sem,QW]<;>decide) Z9 ls l (by simp only[go_sem]<;>rfl) rfl (by simp only[go_sem]<;>rfl) (by simp only[go_sem]<;>rfl) rfl (by simp;omega) (by decide) ?_;simp only[go_sem];exact fin (by simp only[go_sem])
  .simp only[go_sem]
   refine QK.ord [0,1,3,5,6] 2 [2,4,7,8] (by decide +kernel) (by decide +kernel) (by decide +kernel) (by decide +kernel) (by decide +kernel) (by decide) ?_;simp only[Zq,wbh,wbi,waZ,wa6,wa0];simp only[go_sem];refine ze7 7 (.inr rfl) (zi3 ls (by omega)) (by first|rfl|(simp only[go_sem]<;>rfl)) (by simp only[go_sem]) (by decide) ?_;simp only[go_sem];refine zar (Qd _) (sz:=3) (bytes:=56) (by simp only[go_sem,QW]<;>decide) Z9 ls l (by simp only[go_sem]<;>rfl) rfl (by simp only[go_sem]<;>rfl) (by simp only[go_sem]<;>rfl) rfl (by simp;omega) (by decide) ?_;simp only[go_sem];exact fin (by simp only[go_sem])
 .simp only[go_sem]
  refine QK.ord [0,3,5,6] 2 [1,2,4,7,8] (by decide +kernel) (by decide +kernel) (by decide +kernel) (by decide +kernel) (by decide +kernel) (by decide) ?_;simp only[Zq,wbh,wbi,waZ,wa6,wa0];simp only[go_sem];refine ze7 7 (.inr rfl) (zi3 ls (by omega)) (by first|rfl|(simp only[go_sem]<;>rfl)) (by simp only[go_sem]) (by decide) ?_;simp only[go_sem];refine zar (Qd _) (sz:=3) (bytes:=56) (by simp only[go_sem,QW]<;>decide) Z9 ls l (by simp only[go_sem]<;>rfl) rfl (by simp only[go_sem]<;>rfl) (by simp only[go_sem]<;>rfl) rfl (by simp;omega) (by decide) ?_;simp only[go_sem];exact fin (by simp only[go_sem])
theorem zdc{n C K:Nat}{f:Fm}(h:Fv n C K f)(hn:n<=1000000)(hC:max C K<=4000000000)(v:Nat):Q7 prog 144 [eF f,tI .i64 v] (eI (coM f.1 v)):=by
 have:=zuB f v (N:=n) (L:=max C K) (by omega) (by omega) h.wf (h.bd hn (wbT _ _) (wbO _ _))
 rwa[zwk]at this
theorem zqp(v:Nat)(ls:List Fm){n C K:Nat}(hn:n<=1000000)(hC:max C K<=4000000000)(hv:v<1000000)(hl:ls.length<1000000000)(h:∀ f∈ls,Fv n C K f):Q7 prog 145 [tI .i64 v,.one (eL cF ls)] (tB (decide (zb4 v ls))):=by
 refine QH QB call145 func145 rfl ntmps145 results145 (by simp) (by decide) ?_;have h1:=zbP 1 (by decide) (by decide);simp only[go_sem];refine QJ (fun i:Nat=>stL 21 [(0,litI .i64 v),(7,.one (.t (eL cF ls))),(8,litI .i64 ls.length),(9,litI .i64 i)] []) (fun i=>i<=ls.length/\zb4 v (ls.take i)) (fun i=>ls.length-i) 0 ?_ ⟨Qk _,by rw[was];intro m hm;cases hm⟩ ?_
 ·(refine Q6 rfl ?_ ?_ ?_ ?_<;>(try simp only[go_sem])<;>(try simp))
 .rintro i ⟨hi,Y3⟩
  simp only[go_sem];refine QI (fun Y1=>?_) (fun YI=>?_)
  .have Yz:i<ls.length:=by omega
   have Y5:QP cF ls i=cF ls[i]:=Q8 Yz;have hf:=h _ (Qf Yz);have hc:=zdc hf hn hC v;have lc:=hf.lco v;have ha:=zvO (coM ls[i].1 v) (by omega);have hs:=ziV ((coM ls[i].1 v).natAbs:Int) 1 (by rw[zhy];omega) (wbV zcP (by decide));have XW:¬((coM ls[i].1 v).natAbs:Int)=1->decide (zb4 v ls)=false:=fun h=>wan fun hf=>h (by have:=hf _ (Qf Yz);omega)
   have Y0:((coM ls[i].1 v).natAbs:Int)=1->zb4 v (ls.take (i+1)):=fun h m hm=>by
    rw[Zl Yz]at hm;rcases wao.1 hm with hm|hm
    .exact Y3 m hm
    .obtain rfl:=Qr.1 hm;omega
   generalize ((coM ls[i].1 v).natAbs:Int)=y at *
   generalize coM ls[i].1 v=x at *
   generalize ls[i]=l at *
   simp only[go_sem,Y5,Y1]
   (repeat(refine Qg (by omega) ?_))
   by_cases c:y=1
   .have hs:=zbT hs c
    ((repeat(refine Q3 0 rfl ?_;simp only[go_sem]));refine Q2 (hc) rfl ?_;simp only[go_sem];(repeat(refine Q3 0 rfl ?_;simp only[go_sem]));refine Q2 (ha) rfl ?_;simp only[go_sem];(repeat(refine Q3 0 rfl ?_;simp only[go_sem]));refine Q2 (h1) rfl ?_;simp only[go_sem];(repeat(refine Q3 0 rfl ?_;simp only[go_sem]));refine Q2 (hs) rfl ?_;simp only[go_sem];(repeat(refine Q3 0 rfl ?_;simp only[go_sem])));refine⟨i+1,⟨Yz,Y0 c⟩,(by show ls.length-(i+1)<ls.length-i;omega),?_⟩
    (refine Q6 rfl ?_ ?_ ?_ ?_<;>(try simp only[go_sem,Q4 (n:=(i:Int)+1) (by omega) (by omega)])<;>(try simp))
   .have hs:=zdn hs c
    rw[XW c];((repeat(refine Q3 0 rfl ?_;simp only[go_sem]));refine Q2 (hc) rfl ?_;simp only[go_sem];(repeat(refine Q3 0 rfl ?_;simp only[go_sem]));refine Q2 (ha) rfl ?_;simp only[go_sem];(repeat(refine Q3 0 rfl ?_;simp only[go_sem]));refine Q2 (h1) rfl ?_;simp only[go_sem];(repeat(refine Q3 0 rfl ?_;simp only[go_sem]));refine Q2 (hs) rfl ?_;simp only[go_sem];(repeat(refine Q3 0 rfl ?_;simp only[go_sem])));try rfl
  .obtain rfl:i=ls.length:=by omega
   rw[waa]at Y3;rw[waC Y3];simp only[go_sem];try rfl
theorem zoi(v:Nat)(lo hi re:List Fm){n C K:Nat}(hn:n<=1000000)(hC:max C K<=4000000000)(hv:v<1000000)(hl:lo.length<1000000000)(UH:hi.length<1000000000)(h:∀ f∈lo,Fv n C K f)(h2:∀ f∈hi,Fv n C K f) :
  Q7 prog 96 [.agg (sB lo hi re),tI .i64 v] (tB (decide (exV v lo hi))):=by
 refine QH QB call96 func96 rfl ntmps96 results96 (by simp) (by decide) ?_;have o1:=zqp v lo hn hC hv hl h;have o2:=zqp v hi hn hC hv UH h2;unfold exV;by_cases c:zb4 v lo
 .have o1:=zbT o1 c
  rw[waC (Or.inl c:zb4 v lo\/zb4 v hi)];simp only[go_sem];((repeat(refine Q3 0 rfl ?_;simp only[go_sem]));refine Q2 (o1) rfl ?_;simp only[go_sem];(repeat(refine Q3 0 rfl ?_;simp only[go_sem])));try rfl
 .have o1:=zdn o1 c
  rw[show decide (zb4 v lo\/zb4 v hi)=decide (zb4 v hi)from waG.2 ⟨fun h=>h.resolve_left c,.inr⟩];simp only[go_sem];((repeat(refine Q3 0 rfl ?_;simp only[go_sem]));refine Q2 (o1) rfl ?_;simp only[go_sem];(repeat(refine Q3 0 rfl ?_;simp only[go_sem]));refine Q2 (o2) rfl ?_;simp only[go_sem];(repeat(refine Q3 0 rfl ?_;simp only[go_sem])));try rfl
theorem zwj{H:QE}{b:Nat}{xs:List Fm}(hb:xs=[]\/H b=some (Q5 cF xs)):FzC H (QX b 3 xs) (eA xs):=by
 cases xs with
 |nil=>exact .t
 |cons x xs =>
  rcases hb with hb|hb
  .cases hb
  .have:=zjC (n:=(x::xs).length) Z9 hb rfl
   cases this with
   |vec h1 h2 h3 h4 h5 h6=>exact .vec (show some false≠some true by decide) h2 h3 h4 h5 h6
def zfH(v:Nat)(lo hi:List Fm):Int:=(lo.length*hi.length:Int)-lo.length-hi.length+(if exV v lo hi then 0 else 3600)
theorem zpo(v:Nat)(lo hi re:List Fm){n C K:Nat}(hn:n<=1000000)(hC:max C K<=4000000000)(hv:v<1000000)(hl:lo.length<100000000)(UH:hi.length<100000000)(h:∀ f∈lo,Fv n C K f)(h2:∀ f∈hi,Fv n C K f) :
  Q7 prog 95 [.agg (sB lo hi re),tI .i64 v] (tI .i64 (zfH v lo hi)):=by
 refine QH QB call95 func95 rfl ntmps95 results95 (by simp) (by decide) ?_;have o1:=zoi v lo hi re hn hC hv (by omega) (by omega) h h2;have hm:(lo.length:Int)*hi.length<=10000000000000000:=by
  have h1:lo.length*hi.length<=100000000*100000000:=wax (by omega) (by omega);have h2:((lo.length*hi.length:Nat):Int)=(lo.length:Int)*hi.length:=wbo _ _;omega
 have RJ:0<=(lo.length:Int)*hi.length:=Int.mul_nonneg (by omega) (by omega);unfold zfH;obtain⟨M,hM⟩:∃ M:Int,M=(lo.length:Int)*hi.length:=⟨_,rfl⟩
 rw[<-hM]at hm RJ ⊢;have e1:IntKind.wrap .i64 ((lo.length:Int)*hi.length)=M:=by rw[<-hM];exact Q4 (by omega) (by omega)
 obtain⟨A,hA⟩:∃ A:Int,A=M-lo.length:=⟨_,rfl⟩
 obtain⟨B,hB⟩:∃ B:Int,B=A-hi.length:=⟨_,rfl⟩
 obtain⟨D,hD⟩:∃ D:Int,D=B+3600:=⟨_,rfl⟩
 have e2:IntKind.wrap .i64 (M-lo.length)=A:=by rw[hA];exact Q4 (by omega) (by omega)
 have e3:IntKind.wrap .i64 (A-hi.length)=B:=by rw[hB];exact Q4 (by omega) (by omega)
 have e4:IntKind.wrap .i64 (B+3600)=D:=by rw[hD];exact Q4 (by omega) (by omega)
 rw[<-hA,<-hB];by_cases c:exV v lo hi
 .have o1:=zbT o1 c
  rw[Qc c,wa7];clear hM hA hB hD;simp only[go_sem,e1,e2,e3];((repeat(refine Q3 0 rfl ?_;simp only[go_sem,e1,e2,e3]));refine Q2 (o1) rfl ?_;simp only[go_sem];(repeat(refine Q3 0 rfl ?_;simp only[go_sem,e1,e2,e3])))
 .have o1:=zdn o1 c
  rw[Qb c,<-hD];clear hM hA hB hD;simp only[go_sem,e1,e2,e3];((repeat(refine Q3 0 rfl ?_;simp only[go_sem,e1,e2,e3,e4]));refine Q2 (o1) rfl ?_;simp only[go_sem,e4];(repeat(refine Q3 0 rfl ?_;simp only[go_sem,e1,e2,e3,e4])))
theorem zte{ls:List Fm}{v i:Nat}(h:i<ls.length):QU (ls.take (i+1)) v=QU (ls.take i) v++(if coM ls[i].1 v<0 then[ls[i]]else[]):=by
 unfold QU;rw[Zl h,wdt,wcH];simp
theorem zsC{ls:List Fm}{v i:Nat}(h:i<ls.length):QR (ls.take (i+1)) v=QR (ls.take i) v++(if 0<coM ls[i].1 v then[ls[i]]else[]):=by
 unfold QR;rw[Zl h,wdt,wcH];simp
theorem zsD{ls:List Fm}{v i:Nat}(h:i<ls.length):ZH (ls.take (i+1)) v=ZH (ls.take i) v++(if coM ls[i].1 v=0 then[ls[i]]else[]):=by
 unfold ZH;rw[Zl h,wdt,wcH];simp
theorem zyS(v:Nat)(ls:List Fm)(m:Nat){n C K:Nat}(hn:n<=1000000)(hC:max C K<=4000000000)(hv:v<1000000)(hl:ls.length<100000000)(h:∀ f∈ls,Fv n C K f) :
  Q7 prog 94 [.agg (sS ls m),tI .i64 v] (.agg (sB (QU ls v) (QR ls v) (ZH ls v))):=by
 refine QH QB call94 func94 rfl ntmps94 results94 (by simp) (by decide) ?_;simp only[go_sem];refine QJ (fun i:Nat=>stL 43 [(1,litI .i64 v),(4,.one (.ptr 4 0)),(5,.one (.ptr 5 0)),(9,.one (.t (eL cF ls))),(10,litI .i64 ls.length),(11,litI .i64 i)]
   (Zb 1000 cF (QU (ls.take i) v)++(Zb 1001 cF (QR (ls.take i) v)++(Zb 1002 cF (ZH (ls.take i) v)++[(4,[.t (.seq (some true) []),.t (.seq (some true) []),.t (.seq (some true) [])]),(5,[QX 1000 3 (QU (ls.take i) v),QX 1001 3 (QR (ls.take i) v),QX 1002 3 (ZH (ls.take i) v)])])))) (fun i=>i<=ls.length) (fun i=>ls.length-i) 0 ?_ (Qk _) ?_
 .rw[was,show QU [] v=[]from rfl,show QR [] v=[]from rfl,show ZH [] v=[]from rfl]
  (refine Q6 rfl ?_ ?_ ?_ ?_<;>(try simp only[go_sem])<;>(try simp))
 .intro i hi
  simp only[go_sem];refine QI (fun Y1=>?_) (fun YI=>?_)
  .have Yz:i<ls.length:=by omega
   have Y5:QP cF ls i=cF ls[i]:=Q8 Yz;have hf:=h _ (Qf Yz);have hc:=zdc hf hn hC v;have lc:=hf.lco v;have hs:=zdJ (coM ls[i].1 v) (by omega);have e1:=zte (v:=v) Yz;have e2:=zsC (v:=v) Yz;have e3:=zsD (v:=v) Yz;have h3:=zkF (ls.take i) v;have h4:(ls.take i).length<=ls.length:=by rw[waB];omega
   generalize QU (ls.take i) v=lo at *
   generalize QR (ls.take i) v=hg at *
   generalize ZH (ls.take i) v=re at *
   generalize coM ls[i].1 v=x at *
   generalize ls[i]=l at *
   simp only[go_sem,Y5,Y1]
   (repeat(refine Qg (by omega) ?_))
   refine Q2 hc rfl ?_;simp only[go_sem];refine Q2 hs rfl ?_;rcases wbF x 0 with c|c|c
   .rw[Qc c]at e1
    rw[Qb (by omega),wak]at e2 e3;have s1:(x.sign = -1)=True:=Qh (wcq c);simp only[go_sem,s1];refine ZF (sz:=3) (bytes:=56) (by simp only[go_sem,QW]<;>decide) Z9 lo [l] (b:=1000) (by simp only[go_sem]<;>rfl) (by simp only[go_sem]<;>rfl) (by simp only[go_sem]<;>rfl) rfl (by simp) (by simp only[Qe,Qi]at *;omega) (by decide) ?_;simp only[go_sem];refine⟨i+1,Yz,(by show ls.length-(i+1)<ls.length-i;omega),?_⟩
    (refine Q6 rfl ?_ ?_ ?_ ?_<;>(try simp only[go_sem,e1,e2,e3,Q4 (n:=(i:Int)+1) (by omega) (by omega)])<;>(try simp))
   .rw[Qc c]at e3
    rw[Qb (by omega),wak]at e1 e2;have s1:(x.sign = -1)=False:=Ql (by rw[c];decide);have s2:(x.sign=1)=False:=Ql (by rw[c];decide);simp only[go_sem,s1,s2];refine ZF (sz:=3) (bytes:=56) (by simp only[go_sem,QW]<;>decide) Z9 re [l] (b:=1002) (by simp only[go_sem]<;>rfl) (by simp only[go_sem]<;>rfl) (by simp only[go_sem]<;>rfl) rfl (by simp) (by simp only[Qe,Qi]at *;omega) (by decide) ?_;simp only[go_sem];refine⟨i+1,Yz,(by show ls.length-(i+1)<ls.length-i;omega),?_⟩
    (refine Q6 rfl ?_ ?_ ?_ ?_<;>(try simp only[go_sem,e1,e2,e3,Q4 (n:=(i:Int)+1) (by omega) (by omega)])<;>(try simp))
   .rw[Qc c]at e2
    rw[Qb (by omega),wak]at e1 e3;have s1:(x.sign = -1)=False:=Ql (by rw[wbQ c];decide);have s2:(x.sign=1)=True:=Qh (wbQ c);simp only[go_sem,s1,s2];refine ZF (sz:=3) (bytes:=56) (by simp only[go_sem,QW]<;>decide) Z9 hg [l] (b:=1001) (by simp only[go_sem]<;>rfl) (by simp only[go_sem]<;>rfl) (by simp only[go_sem]<;>rfl) rfl (by simp) (by simp only[Qe,Qi]at *;omega) (by decide) ?_;simp only[go_sem];refine⟨i+1,Yz,(by show ls.length-(i+1)<ls.length-i;omega),?_⟩
    (refine Q6 rfl ?_ ?_ ?_ ?_<;>(try simp only[go_sem,e1,e2,e3,Q4 (n:=(i:Int)+1) (by omega) (by omega)])<;>(try simp))
  .obtain rfl:i=ls.length:=by omega
   rw[waa];simp only[go_sem];exact zjU (.cons (zd3 Z9 (by simp only[go_sem])) (.cons (zd3 Z9 (by simp only[go_sem])) (.cons (zwj (by simp only[go_sem])) .nil)))
end Go.Proofs.YtlgjjcmljmjenaaGreat
