/- At every input the call answers true and leaves its arguments as they were; no conditions. -/
import Derived.Test.YtlgjjcmljmjenaaGreatUa
set_option linter.unusedSimpArgs false
set_option linter.unusedVariables false
set_option maxRecDepth 100000
set_option maxHeartbeats 32000000
namespace Go.Proofs.YtlgjjcmljmjenaaGreat
open Go Go.Abs Go.Proofs.Tryz
abbrev RI:=Bool×List Nat
abbrev vR(p:RI):Int:=iv p.1 p.2
def cMw(row:List RI):List T:=[eL cI row]
theorem zju(row:List RI):(cMw row).length=1:=rfl
attribute [go_sem] cMw
abbrev eW(a:List (List RI)):T:=eL cMw a
def atR(row:List RI)(j:Nat):Int:=match row[j]? with|some p=>vR p|none=>0
def atW(a:List (List RI))(i j:Nat):Int:=match a[i]? with|some row=>atR row j|none=>0
def Yw(z:Int):RI:=(decide (z<0),dig z.natAbs)
theorem zqT(z:Int):cI (Yw z)=cJ z:=rfl
theorem zhG(z:Int):vR (Yw z)=z:=Zn z
theorem zgF{row:List RI}{j:Nat}(h:j<row.length):atR row j=vR row[j]:=by unfold atR;rw[wab h]
theorem zjM{row:List RI}{j:Nat}(h:row.length<=j):atR row j=0:=by unfold atR;rw[wcC h]
theorem zmd{a:List (List RI)}{i j:Nat}(h:i<a.length):atW a i j=atR a[i] j:=by unfold atW;rw[wab h]
theorem zyt{a:List (List RI)}{i j:Nat}(h:a.length<=i):atW a i j=0:=by unfold atW;rw[wcC h]
def LR(L:Nat)(row:List RI):Prop:=row.length<1000000000/\∀ p∈row,p.2.length<=L
theorem LR.at{L:Nat}{row:List RI}(h:LR L row)(j:Nat):lN (atR row j)<=L:=by
 by_cases c:j<row.length
 .rw[zgF c]
  exact Qo (zav _ _) (h.2 _ (Qf c))
 .rw[zjM (by omega)];unfold lN;simp[Zg]
abbrev zAg:TV:=.agg [.lit (.bool false),.seq (some true) []]
theorem zp3(row:List RI)(j:Nat){L:Nat}(hL:L<=10000000000)(hl:LR L row)(hj:j<1000000000):Q7 prog 131 [.one (eL cI row),tI .i64 j] (eI (atR row j)):=by
 have VZ:=hl.1;have z:eI 0=gI false []:=by show gI (decide ((0:Int)<0)) (dig 0)=_;rw[Zg];rfl
 refine QH QB call131 func131 rfl ntmps131 results131 (by simp) (by decide) ?_;simp only[go_sem];refine QI (fun YI=>?_) (fun Y1=>?_)
 .rw[zjM (by omega),z]
  simp only[go_sem];exact Zc .t .weak
 .have Yz:j<row.length:=by omega
  have Y5:QP cI row j=cI row[j]:=Q8 Yz;have hb:=hl.2 _ (Qf Yz);rw[zgF Yz];generalize row[j]=p at *
  have o1:=(zjY p.1 p.2 false [] (by omega) (by simp)).fz (tvs':=[gI p.1 p.2,zAg]) (.cons (Zc .t .t) (.cons (Zc .t .weak) .nil));have e0:iv p.1 p.2+iv false []=vR p:=by
   have:iv false []=0:=by unfold iv;simp[val]
   rw[this,wa7]
  rw[e0]at o1;have hI:((j:Int)<(row.length:Int))=True:=Qh (by omega);simp only[go_sem,Y5,hI,cI]
  (repeat(refine Qg (by omega) ?_))
  ((repeat(refine Q3 0 rfl ?_;simp only[go_sem,Y5,hI,cI]));refine Q2 (o1) rfl ?_;simp only[go_sem];(repeat(refine Q3 0 rfl ?_;simp only[go_sem,Y5,hI,cI])));exact Zc .t .t
theorem prmF{b n sz len k m:Nat}{x:Nat->T}{s:Nat->Nat}(h:∀ i,i<m->k+s i<n):(ZV (b+k) sz len s m).map (fF b n sz len x)=Q5 (fun i=>[x (k+s i)]) (List.range m):=by
 have e:Q5 (fun i=>[x (k+s i)]) (List.range m)=(List.range m).map fun i=>C.t (x (k+s i)):=by
  unfold Q5;generalize List.range m=l
  induction l with
  |nil=>rfl
  |cons i l ih=>rw[wat,wbC,waK,ih];rfl
 rw[e];unfold ZV;rw[wah];refine way fun i hi=>?_
 have:=h i (wav.1 hi);show(if b<=b+k+s i/\b+k+s i<b+n then _ else _)=_;rw[Qc ⟨by omega,by omega⟩,Qc ⟨rfl,rfl,rfl⟩,show b+k+s i-b=k+s i by omega]
def zc4(n:Nat)(g:Nat->Int):T:=eL cJ (fnG n g)
def Zz(R n:Nat)(g:Nat->Nat->Int):List (List RI):=fnG R fun i=>fnG n fun j=>Yw (g i j)
theorem zvB{n:Nat}{g:Nat->Int}:zc4 n g=eL cI (fnG n fun j=>Yw (g j)):=by
 unfold zc4 eL fnG;rw[wah,wah];rfl
theorem zxc{R n:Nat}{g:Nat->Nat->Int}:eL (fun i=>[zc4 n (g i)]) (List.range R)=eW (Zz R n g):=by
 unfold Zz;show T.seq none _=T.seq none _;congr 1;unfold fnG;rw[wah];exact way fun i _=>by rw[zvB];rfl
theorem zag{R n:Nat}{g:Nat->Nat->Int}:(Zz R n g).length=R:=Zj
theorem zt6{n:Nat}{g:Nat->Int}:TreeOf (Q5 cJ (fnG n g)) 2 n (zc4 n g):=by
 have:=Yp (f:=cJ) (xs:=fnG n g) Yj;rw[Zj]at this;exact this
theorem zmy{R n:Nat}{g:Nat->Nat->Int}:TreeOf (Q5 (fun i=>[zc4 n (g i)]) (List.range R)) 1 R (eW (Zz R n g)):=by
 have:=Yp (f:=fun i=>[zc4 n (g i)]) (sz:=1) (xs:=List.range R) (fun _=>rfl);rw[wdY,zxc]at this;exact this
end Go.Proofs.YtlgjjcmljmjenaaGreat
