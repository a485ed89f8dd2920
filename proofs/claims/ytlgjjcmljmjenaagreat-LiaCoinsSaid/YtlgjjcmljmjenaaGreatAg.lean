/- At every input the call answers true and leaves its arguments as they were; no conditions. -/
import Derived.Test.YtlgjjcmljmjenaaGreatAf
set_option linter.unusedSimpArgs false
set_option linter.unusedVariables false
set_option maxRecDepth 100000
namespace Go.Abs
def fnG{α:Type}(n:Nat)(g:Nat->α):List α:=(List.range n).map g
section
variable {α:Type} {n:Nat} {g:Nat->α}
@[go_sem] theorem Zj:(fnG n g).length=n:=by unfold fnG;simp
theorem za4{i:Nat}(h:i<(fnG n g).length):(fnG n g)[i]=g i:=by
 have h':i<((List.range n).map g).length:=h;show((List.range n).map g)[i]'h'=g i;simp
theorem zpd{k:Nat}{y:α}:(fnG n g).set k y=fnG n (fun v=>if v=k then y else g v):=by
 apply wdc
 .simp[fnG]
 .intro i h1 h2
  rw[List.getElem_set,za4,za4];by_cases e:k=i
  .rw[Qc e,Qc e.symm]
  .rw[Qb e,Qb (fun h=>e h.symm)]
theorem Yo{g':Nat->α}(h:∀ v,v<n->g v=g' v):fnG n g=fnG n g':=by
 unfold fnG;exact way fun i hi=>h i (wav.1 hi)
theorem zud:fnG 0 g=[]:=rfl
theorem zkP:fnG (n+1) g=fnG n g++[g n]:=by unfold fnG;rw[wcN,waK];rfl
theorem zbA(h:n≠0):fnG n g≠[]:=by
 intro e;have:=congrArg List.length e;rw[Zj]at this;exact h this
theorem zn2{m:Nat}(h:m<=n):(fnG n g).take m=fnG m g:=by
 apply wdc
 .simp[fnG];omega
 .intro i h1 h2
  rw[List.getElem_take,za4,za4]
theorem zfb{x:α}(h:x∈fnG n g):∃ i,i<n/\x=g i:=by
 obtain⟨i,hi,rfl⟩:=waQ.1 h;rw[za4];rw[Zj]at hi;exact⟨i,hi,rfl⟩
end
section
variable {α:Type} {n sz i:Nat} {g:Nat->α} {f:α->List T}
theorem zbB(h:∀ x,(f x).length=sz):(Q5 f (fnG n g)).length=n*sz:=by rw[zcG h,Zj]
theorem Z4(h:∀ x,(f x).length=sz)(hi:i<n):(Q5 f (fnG n g)).drop (i*sz)=(f (g i)).map .t++Q5 f ((fnG n g).drop (i+1)):=by
 have:=ziy (f:=f) (sz:=sz) (xs:=fnG n g) h (i:=i) (by rw[Zj];exact hi)
 rwa[za4]at this
theorem zhz(h:∀ x,(f x).length=sz)(hi:i<n){y:α}:Yq (Q5 f (fnG n g)) (i*sz) ((f y).map .t)=Q5 f (fnG n (fun v=>if v=i then y else g v)):=by
 rw[zgZ h (by rw[Zj];exact hi),zpd]
theorem zd4(hi:i<n):QP f (fnG n g) i=f (g i):=by
 rw[Q8 (by rw[Zj];exact hi),za4]
end
def cvC(b n:Nat):C:=if n=0 then .t (.seq (some true) [])else .vec b 1 0 n
def cvE(b n:Nat)(cs:List C):List (Nat×List C):=if n=0 then[]else[(b,cs)]
def cvD(b n:Nat):List Nat:=if n=0 then[]else[b]
section
variable {b n t:Nat} {cs:List C} {l:List (Nat×List C)} {D:List Nat} {σ:St}
@[go_sem] theorem zB4:cvC b 0 = .t (.seq (some true) []):=rfl
@[go_sem] theorem zB5:cvE b 0 cs=[]:=rfl
theorem zgv(h:n≠0):cvC b n = .vec b 1 0 n:=Qb h
@[go_sem] theorem zue:Q9 (cvE b n cs++l) t=if t=b/\n≠0 then some cs else Q9 l t:=by
 unfold cvE;by_cases h:n=0
 .rw[Qc h,Qb (fun h2=>h2.2 h)];rfl
 .rw[Qb h]
  show(if t=b then some cs else Q9 l t)=_;by_cases e:t=b
  .rw[Qc e,Qc ⟨e,h⟩]
  .rw[Qb e,Qb (fun h2=>e h2.1)]
@[go_sem] theorem zvQ:ZB σ (cvE b n cs++l)=((n=0\/σ.H b=some cs)/\ZB σ l):=by
 unfold cvE;by_cases h:n=0
 .rw[Qc h];simp[h]
 .rw[Qb h];simp[h,ZB]
@[go_sem] theorem zvR:(cvE b n cs).map (fun p=>p.1)=cvD b n:=by unfold cvE cvD;split<;>rfl
@[go_sem] theorem zuf:QT D (cvE b n cs++l)=((n==0||cs.all (ZA D))&&QT D l):=by
 unfold cvE;by_cases h:n=0
 .rw[Qc h,h];rfl
 .rw[Qb h,show(n==0)=false from beq_false_of_ne h];rfl
@[go_sem] theorem zug:ZA D (cvC b n)=(n==0||D.contains b):=by
 unfold cvC;by_cases h:n=0
 .rw[Qc h,h];rfl
 .rw[Qb h,show(n==0)=false from beq_false_of_ne h];rfl
@[go_sem] theorem zr9:(cvD b n++D).contains t=((t==b&&!(n==0))||D.contains t):=by
 unfold cvD;by_cases h:n=0
 .rw[Qc h,h];simp
 .rw[Qb h,show(n==0)=false from beq_false_of_ne h]
  show(b::D).contains t=_;rw[wdS];simp
@[go_sem] theorem zAh:(AV.one (cvC b n)).cellsOf=some [cvC b n]:=rfl
@[go_sem] theorem jC_cv{b':Nat}:jC b' (cvC b n)=if b=b'/\n≠0 then .t .junk else cvC b n:=by
 unfold cvC;by_cases h:n=0
 .rw[Qc h,Qb (fun h2=>h2.2 h)];rfl
 .rw[Qb h]
  show(if b=b' then C.t .junk else .vec b 1 0 n)=_;by_cases e:b=b'
  .rw[Qc e,Qc ⟨e,h⟩]
  .rw[Qb e,Qb (fun h2=>e h2.1)]
end
theorem zbg:∀ {l:List (Nat×List C)} {b:Nat},b∉l.map (·.1)->Q9 l b=none
 |[],_,_=>rfl
 |(k,v)::l,b,h=>by
  simp only[wat,wad,not_or]at h;unfold Q9;rw[Qb h.1];exact zbg h.2
theorem zbi{l:List (Nat×List C)}{b:Nat}:Q9 l b=none↔b∉l.map (·.1):=by
 constructor
 .intro h hm
  obtain⟨cs,YN⟩:=ziA hm;rw[h]at YN;cases YN
 .exact zbg
theorem zsa{l:List (Nat×List C)}{c:C}(h:ZA (l.map (·.1)) c=true):inC (Q9 l) c:=by
 have key:∀ b,(l.map (·.1)).contains b=true->Q9 l b≠none:=fun b hb=>by
  rw[Ne,zbi];exact fun h2=>h2 (waH.1 hb)
 cases c with
 |t x=>trivial
 |ptr b o=>exact key b h
 |vec b s o n=>exact key b h
 |fn f caps=>exact fun p hp=>key _ (wac.1 h p hp)
theorem zb8{l:List (Nat×List C)}(h:QT (l.map (·.1)) l=true):∀ b cs,Q9 l b=some cs->∀ c∈cs,inC (Q9 l) c :=
 fun b cs hb c hc=>zsa (zkm h b cs hb c hc)
theorem zdV{l:List (Nat×List C)}(h:∀ k∈l.map (·.1),PIN<=k)(b:Nat)(hb:b<PIN):Q9 l b=none:=by
 rw[zbi];intro hm;have:=h b hm;omega
theorem zln{α:Type}{b n:Nat}{g:Nat->α}:zgP b (fnG n g)=cvD b n:=by
 unfold cvD;by_cases h:n=0
 .subst h;rfl
 .rw[Qb h]
  have:=zbA (g:=g) h;cases e:fnG n g with
  |nil=>exact(this e).elim
  |cons _ _=>rfl
theorem zm6{α:Type}{n:Nat}{g:Nat->α}:(fnG n g).isEmpty=(n==0):=by
 by_cases h:n=0
 .subst h;rfl
 .rw[show(n==0)=false from beq_false_of_ne h]
  cases e:fnG n g with
  |nil=>exact(zbA h e).elim
  |cons _ _=>rfl
theorem zeJ{P:Program}{rr:ResultVar}{r:AV}{X:QE}{e:Exit}{σ:St}(he:e = .normal\/e = .ret)(h1:zak P σ rr)(h2:zaV P σ rr=r)(h3:∀ b,PIN<=b->σ.H b=X b):zh2 P [rr] r X e σ :=
 ⟨he,fun x hx=>by obtain rfl:=Qr.1 hx;exact h1,h2,h3⟩
theorem zgI{P:Program}{X:QE}{e:Exit}{σ:St}(he:e = .normal\/e = .ret)(h3:∀ b,PIN<=b->σ.H b=X b):zh2 P [] (.tup []) X e σ :=
 ⟨he,(fun x hx=>by cases hx),rfl,h3⟩
theorem za9{H X:QE}{t:Nat}{x:Option (List C)}(ht:t<PIN)(h:∀ b,PIN<=b->H b=X b):∀ b,PIN<=b->upd H t x b=X b:=fun b hb=>by
 rw[zaG,Qb (by omega)];exact h b hb
end Go.Abs
