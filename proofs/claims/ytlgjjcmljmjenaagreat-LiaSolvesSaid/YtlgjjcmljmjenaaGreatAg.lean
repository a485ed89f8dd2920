/- At every input the call answers true and leaves its arguments as they were; no conditions. -/
import Derived.Test.YtlgjjcmljmjenaaGreatAf
set_option linter.unusedSimpArgs false
set_option linter.unusedVariables false
set_option maxRecDepth 100000
namespace Go.Abs
def fnG{α:Type}(n:Nat)(g:Nat->α):List α:=(List.range n).map g
section
variable {α:Type} {n:Nat} {g:Nat->α}
@[go_sem] theorem Zc:(fnG n g).length=n:=by unfold fnG;simp
theorem za2{i:Nat}(h:i<(fnG n g).length):(fnG n g)[i]=g i:=by
 have h':i<((List.range n).map g).length:=h;show((List.range n).map g)[i]'(h')=g i;simp
theorem zo4{k:Nat}{y:α}:(fnG n g).set k y=fnG n (fun v=>if v=k then y else g v):=by
 apply wc7
 .simp[fnG]
 .intro i h1 h2
  rw[List.getElem_set,za2,za2];by_cases e:k=i
  .rw[Qc e,Qc e.symm]
  .rw[Qb e,Qb (fun h=>e h.symm)]
theorem Yk{g':Nat->α}(h:∀ v,v<n->g v=g' v):fnG n g=fnG n g':=by
 unfold fnG;exact wau fun i hi=>h i (waJ.1 hi)
theorem zuk:fnG 0 g=[]:=rfl
theorem zkE:fnG (n+1) g=fnG n g++[g n]:=by unfold fnG;rw[wc8,waG];rfl
theorem zbA(h:n≠0):fnG n g≠[]:=by
 intro e;have:=congrArg List.length e;rw[Zc]at this;exact h this
theorem znO{m:Nat}(h:m<=n):(fnG n g).take m=fnG m g:=by
 apply wc7
 .simp[fnG];omega
 .intro i h1 h2
  rw[List.getElem_take,za2,za2]
theorem zeq{x:α}(h:x∈fnG n g):∃ i,i<n/\x=g i:=by
 obtain⟨i,hi,rfl⟩:=waK.1 h;rw[za2];rw[Zc]at hi;exact⟨i,hi,rfl⟩
end
section
variable {α:Type} {n sz i:Nat} {g:Nat->α} {f:α->List T}
theorem zbm(h:∀ x,(f x).length=sz):(Q5 f (fnG n g)).length=n*sz:=by rw[zcC h,Zc]
theorem Z1(h:∀ x,(f x).length=sz)(hi:i<n):(Q5 f (fnG n g)).drop (i*sz)=(f (g i)).map .t++Q5 f ((fnG n g).drop (i+1)):=by
 have:=zio (f:=f) (sz:=sz) (xs:=fnG n g) h (i:=i) (by rw[Zc];exact hi)
 rwa[za2]at this
theorem zgl(h:∀ x,(f x).length=sz)(hi:i<n){y:α}:Yh (Q5 f (fnG n g)) (i*sz) ((f y).map .t)=Q5 f (fnG n (fun v=>if v=i then y else g v)):=by
 rw[zgU h (by rw[Zc];exact hi),zo4]
theorem zdf(hi:i<n):QM f (fnG n g) i=f (g i):=by
 rw[Q8 (by rw[Zc];exact hi),za2]
end
def cvC(b n:Nat):C:=if n=0 then .t (.seq (some true) [])else .vec b 1 0 n
def cvE(b n:Nat)(cs:List C):List (Nat×List C):=if n=0 then[]else[(b,cs)]
def cvD(b n:Nat):List Nat:=if n=0 then[]else[b]
section
variable {b n t:Nat} {cs:List C} {l:List (Nat×List C)} {D:List Nat} {σ:St}
@[go_sem] theorem zB8:cvC b 0 = .t (.seq (some true) []):=rfl
@[go_sem] theorem zB9:cvE b 0 cs=[]:=rfl
theorem zgm(h:n≠0):cvC b n = .vec b 1 0 n:=Qb h
@[go_sem] theorem zul:QB (cvE b n cs++l) t=if t=b/\n≠0 then some cs else QB l t:=by
 unfold cvE;by_cases h:n=0
 .rw[Qc h,Qb (fun h2=>h2.2 h)];rfl
 .rw[Qb h]
  show(if t=b then some cs else QB l t)=_;by_cases e:t=b
  .rw[Qc e,Qc ⟨e,h⟩]
  .rw[Qb e,Qb (fun h2=>e h2.1)]
@[go_sem] theorem zv4:ZA σ (cvE b n cs++l)=((n=0\/σ.H b=some cs)/\ZA σ l):=by
 unfold cvE;by_cases h:n=0
 .rw[Qc h];simp[h]
 .rw[Qb h];simp[h,ZA]
@[go_sem] theorem zv5:(cvE b n cs).map (fun p=>p.1)=cvD b n:=by unfold cvE cvD;split<;>rfl
@[go_sem] theorem zum:QT D (cvE b n cs++l)=((n==0||cs.all (Z9 D))&&QT D l):=by
 unfold cvE;by_cases h:n=0
 .rw[Qc h,h];rfl
 .rw[Qb h,show(n==0)=false from beq_false_of_ne h];rfl
@[go_sem] theorem zun:Z9 D (cvC b n)=(n==0||D.contains b):=by
 unfold cvC;by_cases h:n=0
 .rw[Qc h,h];rfl
 .rw[Qb h,show(n==0)=false from beq_false_of_ne h];rfl
@[go_sem] theorem zsb:(cvD b n++D).contains t=((t==b&&!(n==0))||D.contains t):=by
 unfold cvD;by_cases h:n=0
 .rw[Qc h,h];simp
 .rw[Qb h,show(n==0)=false from beq_false_of_ne h]
  show(b::D).contains t=_;rw[wdN];simp
@[go_sem] theorem zAl:(AV.one (cvC b n)).cellsOf=some [cvC b n]:=rfl
@[go_sem] theorem jC_cv{b':Nat}:jC b' (cvC b n)=if b=b'/\n≠0 then .t .junk else cvC b n:=by
 unfold cvC;by_cases h:n=0
 .rw[Qc h,Qb (fun h2=>h2.2 h)];rfl
 .rw[Qb h]
  show(if b=b' then C.t .junk else .vec b 1 0 n)=_;by_cases e:b=b'
  .rw[Qc e,Qc ⟨e,h⟩]
  .rw[Qb e,Qb (fun h2=>e h2.1)]
end
theorem zbg:∀ {l:List (Nat×List C)} {b:Nat},b∉l.map (·.1)->QB l b=none
 |[],_,_=>rfl
 |(k,v)::l,b,h=>by
  simp only[waq,wab,not_or]at h;unfold QB;rw[Qb h.1];exact zbg h.2
theorem zbi{l:List (Nat×List C)}{b:Nat}:QB l b=none↔b∉l.map (·.1):=by
 constructor
 .intro h hm
  obtain⟨cs,YL⟩:=ziq hm;rw[h]at YL;cases YL
 .exact zbg
theorem zsc{l:List (Nat×List C)}{c:C}(h:Z9 (l.map (·.1)) c=true):inC (QB l) c:=by
 have key:∀ b,(l.map (·.1)).contains b=true->QB l b≠none:=fun b hb=>by
  rw[Ne,zbi];exact fun h2=>h2 (waE.1 hb)
 cases c with
 |t x=>trivial
 |ptr b o=>exact key b h
 |vec b s o n=>exact key b h
 |fn f caps=>exact fun p hp=>key _ (wai.1 h p hp)
theorem zb9{l:List (Nat×List C)}(h:QT (l.map (·.1)) l=true):∀ b cs,QB l b=some cs->∀ c∈cs,inC (QB l) c :=
 fun b cs hb c hc=>zsc (zj9 h b cs hb c hc)
theorem zdQ{l:List (Nat×List C)}(h:∀ k∈l.map (·.1),PIN<=k)(b:Nat)(hb:b<PIN):QB l b=none:=by
 rw[zbi];intro hm;have:=h b hm;omega
theorem zlc{α:Type}{b n:Nat}{g:Nat->α}:zgL b (fnG n g)=cvD b n:=by
 unfold cvD;by_cases h:n=0
 .subst h;rfl
 .rw[Qb h]
  have:=zbA (g:=g) h;cases e:fnG n g with
  |nil=>exact(this e).elim
  |cons _ _=>rfl
theorem zmV{α:Type}{n:Nat}{g:Nat->α}:(fnG n g).isEmpty=(n==0):=by
 by_cases h:n=0
 .subst h;rfl
 .rw[show(n==0)=false from beq_false_of_ne h]
  cases e:fnG n g with
  |nil=>exact(zbA h e).elim
  |cons _ _=>rfl
theorem zeG{P:Program}{rr:ResultVar}{r:AV}{X:QD}{e:Exit}{σ:St}(he:e = .normal\/e = .ret)(h1:zal P σ rr)(h2:zaT P σ rr=r)(h3:∀ b,PIN<=b->σ.H b=X b):zhU P [rr] r X e σ :=
 ⟨he,fun x hx=>by obtain rfl:=Qr.1 hx;exact h1,h2,h3⟩
theorem zgB{P:Program}{X:QD}{e:Exit}{σ:St}(he:e = .normal\/e = .ret)(h3:∀ b,PIN<=b->σ.H b=X b):zhU P [] (.tup []) X e σ :=
 ⟨he,(fun x hx=>by cases hx),rfl,h3⟩
theorem za7{H X:QD}{t:Nat}{x:Option (List C)}(ht:t<PIN)(h:∀ b,PIN<=b->H b=X b):∀ b,PIN<=b->upd H t x b=X b:=fun b hb=>by
 rw[zaE,Qb (by omega)];exact h b hb
end Go.Abs
