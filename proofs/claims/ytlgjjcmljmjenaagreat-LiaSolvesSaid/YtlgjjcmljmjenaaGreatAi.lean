/- At every input the call answers true and leaves its arguments as they were; no conditions. -/
import Derived.Test.YtlgjjcmljmjenaaGreatAh
set_option linter.unusedSimpArgs false
set_option linter.unusedVariables false
set_option maxRecDepth 100000
namespace Go.Abs
section
variable {P:Program} {m:Nat} {d:Nat} {ty:TypeId} {pos:String} {af:Array Edge} {g:Option (Nat×Bool)} {σ:St} {K:AV->St->Prop}
def zy3:AV->AV->Prop
 |.one (.t (.lit (.string s))),i=>zaC i s.size
 |_,_=>False
def strV:AV->Nat->AV
 |.one (.t (.lit (.string s))),i=>litI .u8 (s[i]!).toNat
 |_,_=>.junk
@[go_sem] theorem zCM{t:TypeId}{x y:Operand}:QW P m ⟨some d,.index t x y,ty,pos,af,g⟩ σ K =
  (if isArrayD (tdesc P t)=true then((tok P t=true/\tok P (telem P t)=true/\zaC (ev σ.s y) (arrLen (tdesc P t))/\zhG (idx (ev σ.s y)*tsize P (telem P t)+(if tagg P (telem P t)then tsize P (telem P t)else 1)) (ev σ.s x)) /\
    K (if tagg P (telem P t)then .agg (((zeY (ev σ.s x)).drop (idx (ev σ.s y)*tsize P (telem P t))).take (tsize P (telem P t)))else .one (((zeY (ev σ.s x)).drop (idx (ev σ.s y)*tsize P (telem P t))).headD default)) σ)
   else((tok P t=true/\tdesc P t = .string/\zy3 (ev σ.s x) (ev σ.s y))/\K (strV (ev σ.s x) (idx (ev σ.s y))) σ)):=by
 simp only[QW,Zh,if_true,zak,Zl,opV,opH,zbh];by_cases h:isArrayD (tdesc P t)=true
 .have h2:¬tdesc P t = .string:=fun e=>by rw[e]at h;cases h
  rw[Qc h];simp only[h,h2,false_and,Qv,Qs];cases ev σ.s x<;>simp[zhG,zeY]
 .rw[Qb h]
  simp only[h,wa4,false_and,false_or];refine propext ⟨fun⟨⟨h1,h2,h3⟩,h4⟩=>?_,fun⟨⟨h1,h2,h3⟩,h4⟩=>?_⟩
  .revert h3 h4
   generalize ev σ.s x=v;intro h3 h4
   match v,h3,h4 with
   |.one (.t (.lit (.string s))),h3,h4=>exact⟨⟨h1,h2,h3⟩,h4⟩
  .revert h3 h4
   generalize ev σ.s x=v;intro h3 h4
   match v,h3,h4 with
   |.one (.t (.lit (.string s))),h3,h4=>exact⟨⟨h1,h2,h3⟩,h4⟩
end
def fF(b n sz len:Nat)(x:Nat->T):C->C
 |.ptr b' o=>if b<=b'/\b'<b+n then .t .junk else .ptr b' o
 |.vec b' s o m=>if b<=b'/\b'<b+n then(if s=sz/\o=0/\m=len then .t (x (b'-b))else .t .junk)else .vec b' s o m
 |.fn f caps=>if caps.any (fun p=>decide (b<=p.1/\p.1<b+n))then .t .junk else .fn f caps
 |.t y=>.t y
def fFA(b n sz len:Nat)(x:Nat->T):AV->AV
 |.one c=>.one (fF b n sz len x c)
 |.agg cs=>.agg (cs.map (fF b n sz len x))
 |.iptr cs=>.iptr cs
 |.tup []=>.tup []
 |_=>.junk
def St.frzF(σ:St)(b n sz len:Nat)(x:Nat->T):St:=⟨σ.n,fun t=>fFA b n sz len x (σ.s t),fun m=>if b<=m/\m<b+n then none else(σ.H m).map (·.map (fF b n sz len x))⟩
section
variable {σ:St} {b n sz len:Nat} {x:Nat->T}
@[go_sem] theorem frzF_n:(σ.frzF b n sz len x).n=σ.n:=rfl
@[go_sem] theorem frzF_s{t:Nat}:(σ.frzF b n sz len x).s t=fFA b n sz len x (σ.s t):=rfl
@[go_sem] theorem zx2{m:Nat}:(σ.frzF b n sz len x).H m=if b<=m/\m<b+n then none else(σ.H m).map (·.map (fF b n sz len x)):=rfl
@[go_sem] theorem zDH{c:C}:fFA b n sz len x (.one c) = .one (fF b n sz len x c):=rfl
@[go_sem] theorem zDI{cs:List C}:fFA b n sz len x (.agg cs) = .agg (cs.map (fF b n sz len x)):=rfl
@[go_sem] theorem zCN{cs:List T}:fFA b n sz len x (.iptr cs) = .iptr cs:=rfl
@[go_sem] theorem zCO:fFA b n sz len x .junk = .junk:=rfl
@[go_sem] theorem zBD:fFA b n sz len x undefA=undefA:=rfl
@[go_sem] theorem zCP{k:IntKind}{i:Int}:fFA b n sz len x (litI k i)=litI k i:=rfl
@[go_sem] theorem zCQ{y:Bool}:fFA b n sz len x (QO y)=QO y:=rfl
@[go_sem] theorem fF_t{y:T}:fF b n sz len x (.t y) = .t y:=rfl
@[go_sem] theorem fF_ptr{b' o:Nat}:fF b n sz len x (.ptr b' o)=if b<=b'/\b'<b+n then .t .junk else .ptr b' o:=rfl
@[go_sem] theorem fF_vec{b' s o m:Nat}:fF b n sz len x (.vec b' s o m)=if b<=b'/\b'<b+n then(if s=sz/\o=0/\m=len then .t (x (b'-b))else .t .junk)else .vec b' s o m:=rfl
@[go_sem] theorem zCR{α:Type}{f:α->List T}{xs:List α}:(Q5 f xs).map (fF b n sz len x)=Q5 f xs:=by unfold Q5;rw[wac];rfl
theorem zpk{k m:Nat}(h:k+m<=n):(rowsC (b+k) sz len m).map (fF b n sz len x)=Q5 (fun i=>[x (k+i)]) (List.range m):=by
 have e:Q5 (fun i=>[x (k+i)]) (List.range m)=(List.range m).map fun i=>C.t (x (k+i)):=by
  unfold Q5;generalize List.range m=l
  induction l with
  |nil=>rfl
  |cons i l ih=>rw[waq,wbx,waG,ih];rfl
 rw[e];unfold rowsC;rw[wac];refine wau fun i hi=>?_
 have:=waJ.1 hi;show(if b<=b+k+i/\b+k+i<b+n then _ else _)=_;rw[Qc ⟨by omega,by omega⟩,Qc ⟨rfl,rfl,rfl⟩,show b+k+i-b=k+i by omega]
theorem zlm(c:C):fC (b+n) sz len (x n) (fF b n sz len x c)=fF b (n+1) sz len x c:=by
 cases c with
 |t y=>rfl
 |ptr b' o =>
  simp only[fF];by_cases h1:b<=b'/\b'<b+n
  .rw[Qc h1,Qc ⟨h1.1,by omega⟩];rfl
  .rw[Qb h1]
   show(if b'=b+n then _ else _)=_;by_cases h2:b'=b+n
   .rw[Qc h2,Qc ⟨by omega,by omega⟩]
   .rw[Qb h2,Qb (fun h=>h1 ⟨h.1,by omega⟩)]
 |vec b' s o m =>
  simp only[fF];by_cases h1:b<=b'/\b'<b+n
  .have h3:b<=b'/\b'<b+(n+1):=⟨h1.1,by omega⟩
   rw[Qc h1,Qc h3];split<;>rfl
  .rw[Qb h1]
   show(if b'=b+n then _ else _)=_;by_cases h2:b'=b+n
   .subst h2
    have h3:b<=b+n/\b+n<b+(n+1):=⟨by omega,by omega⟩
    rw[Qc rfl,Qc h3,show b+n-b=n by omega]
   .rw[Qb h2,Qb (fun h=>h1 ⟨h.1,by omega⟩)]
 |fn f caps =>
  simp only[fF];by_cases h1:caps.any (fun p=>decide (b<=p.1/\p.1<b+n))=true
  .rw[Qc h1,Qc ?_]
   .rfl
   .obtain⟨p,hp,hq⟩:=wbz.1 h1
    have hq:=of_decide_eq_true hq;exact wbz.2 ⟨p,hp,waA ⟨hq.1,by omega⟩⟩
  .rw[Qb h1]
   show(if caps.any (fun p=>p.1==b+n)=true then _ else _)=_;by_cases h2:caps.any (fun p=>p.1==b+n)=true
   .rw[Qc h2,Qc ?_]
    obtain⟨p,hp,hq⟩:=wbz.1 h2;have hq:=eq_of_beq hq;exact wbz.2 ⟨p,hp,waA ⟨by omega,by omega⟩⟩
   .rw[Qb h2,Qb ?_]
    intro h3;obtain⟨p,hp,hq⟩:=wbz.1 h3;have hq:=of_decide_eq_true hq;by_cases e:p.1=b+n
    .exact h2 (wbz.2 ⟨p,hp,by rw[e];exact Qw _⟩)
    .exact h1 (wbz.2 ⟨p,hp,waA ⟨hq.1,by omega⟩⟩)
theorem zuG(a:AV):fA (b+n) sz len (x n) (fFA b n sz len x a)=fFA b (n+1) sz len x a:=by
 cases a with
 |one c=>show AV.one _=AV.one _;rw[zlm]
 |agg cs =>
  show AV.agg ((cs.map _).map _)=AV.agg _;rw[wac];congr 1;exact wau fun c _=>zlm c
 |iptr cs=>rfl
 |tup xs=>cases xs<;>rfl
 |junk=>rfl
theorem zln(c:C):fF b 0 sz len x c=c:=by
 cases c with
 |t y=>rfl
 |ptr b' o=>simp only[fF];rw[Qb (by omega)]
 |vec b' s o m=>simp only[fF];rw[Qb (by omega)]
 |fn f caps =>
  simp only[fF];rw[Qb];intro h;obtain⟨p,hp,hq⟩:=wbz.1 h;have hq:=of_decide_eq_true hq;omega
theorem zsG{cs:List C}{y:T}{f:C->C}(h:TreeOf cs sz len y)(hf:∀ t,f (.t t) = .t t):cs.map f=cs:=by
 cases h with
 |seq h1 h2 h3 h4 =>
  subst h2;rw[wac];exact wau fun t _=>hf t
end
theorem St.frzF_zero'{σ σ':St}{b sz len:Nat}{x:Nat->T}(h1:σ'.n=σ.n)(hs:∀ t,σ'.s t=fFA b 0 sz len x (σ.s t))(hH:∀ m,σ'.H m=σ.H m)(ρ:Nat->Option Nat)(ok:Nat->Prop)(a:Act)(w:World)(h:SR ρ ok σ a w):SR ρ ok σ' a w:=by
 refine⟨⟨fun b cs hb=>?_,fun b hb=>?_,h.inj,h.okR⟩,by rw[h1];exact h.size,fun t=>?_,h.defers,by rw[h1];exact h.small⟩
 .rw[hH]at hb;exact h.heap b cs hb
 .rw[hH]at hb;exact h.dom b hb
 .rw[hs]
  have h2:=h.slots t;generalize σ.s t=v at h2;cases v with
  |one c=>show RA _ _ _ (.one (fF b 0 sz len x c)) _;rw[zln];exact h2
  |agg cs =>
   show RA _ _ _ (.agg (cs.map (fF b 0 sz len x))) _;rw[show cs.map (fF b 0 sz len x)=cs from(wau fun c _=>zln c).trans (List.map_id' cs)];exact h2
  |iptr cs=>exact h2
  |tup xs =>
   cases xs with
   |nil=>exact h2
   |cons _ _=>exact .junk
  |junk=>exact h2
theorem zmX{σ:St}{b sz len:Nat}{x:Nat->T}:∀ (n:Nat),(∀ i,i<n->∃ cs,σ.H (b+i)=some cs/\TreeOf cs sz len (x i))->GStep σ (σ.frzF b n sz len x)
 |0,_=>fun ρ ok a w h=>by
  refine⟨ρ,ok,St.frzF_zero' (σ:=σ) (σ':=σ.frzF b 0 sz len x) (b:=b) (sz:=sz) (len:=len) (x:=x) rfl (fun t=>rfl) (fun m=>?_) ρ ok a w h,Goes.refl ρ ok w⟩;show(if b<=m/\m<b+0 then _ else _)=_;rw[Qb (by omega)];cases σ.H m with
  |none=>rfl
  |some cs=>show some (cs.map _)=some cs;rw[show cs.map (fF b 0 sz len x)=cs from(wau fun c _=>zln c).trans (List.map_id' cs)]
 |n+1,h=>by
  refine GStep.trans (zmX n fun i hi=>h i (by omega)) ?_;obtain⟨cs,h1,h2⟩:=h n (by omega);have h3:(σ.frzF b n sz len x).H (b+n)=some cs:=by
   rw[zx2,Qb (by omega),h1];show some (cs.map _)=_;rw[zsG h2 fun _=>rfl]
  have e:(σ.frzF b n sz len x).frz (b+n) sz len (x n)=σ.frzF b (n+1) sz len x:=by
   unfold St.frz St.frzF;congr 1
   .funext t;exact zuG _
   .funext m
    show(if m=b+n then none else(if b<=m/\m<b+n then none else(σ.H m).map _).map _)=_;by_cases e1:m=b+n
    .rw[Qc e1,Qc ⟨by omega,by omega⟩]
    .rw[Qb e1]
     by_cases e2:b<=m/\m<b+n
     .rw[Qc e2,Qc ⟨e2.1,by omega⟩];rfl
     .rw[Qb e2,Qb (fun h=>e2 ⟨h.1,by omega⟩)]
      cases σ.H m with
      |none=>rfl
      |some cs =>
       show some ((cs.map _).map _)=some (cs.map _);rw[wac];congr 1;exact wau fun c _=>zlm c
  rw[<-e];exact zbu h3 h2
end Go.Abs
