/- At every input the call answers true and leaves its arguments as they were; no conditions. -/
import Derived.Test.YtlgjjcmljmjenaaGreatUa
set_option linter.unusedSimpArgs false
set_option linter.unusedVariables false
set_option maxRecDepth 100000
set_option maxHeartbeats 32000000
namespace Go.Proofs.YtlgjjcmljmjenaaGreat
open Go Go.Abs Go.Proofs.Tryz
abbrev RI:=Bool×List Nat
abbrev vR(p:RI):Int:=iv p.1 p.2
def cMw(row:List RI):List T:=[eL cI row]
theorem zjj(row:List RI):(cMw row).length=1:=rfl
attribute [go_sem] cMw
abbrev eW(a:List (List RI)):T:=eL cMw a
def atR(row:List RI)(j:Nat):Int:=match row[j]? with|some p=>vR p|none=>0
def atW(a:List (List RI))(i j:Nat):Int:=match a[i]? with|some row=>atR row j|none=>0
def Ys(z:Int):RI:=(decide (z<0),dig z.natAbs)
theorem zqY(z:Int):cI (Ys z)=cJ z:=rfl
theorem zhz(z:Int):vR (Ys z)=z:=Z2 z
theorem zgz{row:List RI}{j:Nat}(h:j<row.length):atR row j=vR row[j]:=by unfold atR;rw[waa h]
theorem zjy{row:List RI}{j:Nat}(h:row.length<=j):atR row j=0:=by unfold atR;rw[wcy h]
theorem zl4{a:List (List RI)}{i j:Nat}(h:i<a.length):atW a i j=atR a[i] j:=by unfold atW;rw[waa h]
theorem zyD{a:List (List RI)}{i j:Nat}(h:a.length<=i):atW a i j=0:=by unfold atW;rw[wcy h]
def LR(L:Nat)(row:List RI):Prop:=row.length<1000000000/\∀ p∈row,p.2.length<=L
theorem LR.at{L:Nat}{row:List RI}(h:LR L row)(j:Nat):lN (atR row j)<=L:=by
 by_cases c:j<row.length
 .rw[zgz c]
  exact Qn (zaX _ _) (h.2 _ (Qh c))
 .rw[zjy (by omega)];unfold lN;simp[Zi]
abbrev zAg:TV:=.agg [.lit (.bool false),.seq (some true) []]
theorem zp3(row:List RI)(j:Nat){L:Nat}(hL:L<=10000000000)(hl:LR L row)(hj:j<1000000000):Q9 prog 131 [.one (eL cI row),tI .i64 j] (eI (atR row j)):=by
 have UC:=hl.1;have z:eI 0=gI false []:=by show gI (decide ((0:Int)<0)) (dig 0)=_;rw[Zi];rfl
 refine QJ QC call131 func131 rfl ntmps131 results131 (by simp) (by decide) ?_;simp only[go_sem];refine QI (fun YG=>?_) (fun Yw=>?_)
 .rw[zjy (by omega),z]
  simp only[go_sem];exact Zk .t .weak
 .have Yv:j<row.length:=by omega
  have Y1:QM cI row j=cI row[j]:=Q8 Yv;have hb:=hl.2 _ (Qh Yv);rw[zgz Yv];generalize row[j]=p at *
  have o1:=(zjM p.1 p.2 false [] (by omega) (by simp)).fz (tvs':=[gI p.1 p.2,zAg]) (.cons (Zk .t .t) (.cons (Zk .t .weak) .nil));have e0:iv p.1 p.2+iv false []=vR p:=by
   have:iv false []=0:=by unfold iv;simp[val]
   rw[this,wa9]
  rw[e0]at o1;have hI:((j:Int)<(row.length:Int))=True:=Qf (by omega);simp only[go_sem,Y1,hI,cI]
  (repeat(refine Qg (by omega) ?_))
  ((repeat(refine Q4 0 rfl ?_;simp only[go_sem,Y1,hI,cI]));refine Q3 (o1) rfl ?_;simp only[go_sem];(repeat(refine Q4 0 rfl ?_;simp only[go_sem,Y1,hI,cI])));exact Zk .t .t
theorem prmF{b n sz len k m:Nat}{x:Nat->T}{s:Nat->Nat}(h:∀ i,i<m->k+s i<n):(ZS (b+k) sz len s m).map (fF b n sz len x)=Q5 (fun i=>[x (k+s i)]) (List.range m):=by
 have e:Q5 (fun i=>[x (k+s i)]) (List.range m)=(List.range m).map fun i=>C.t (x (k+s i)):=by
  unfold Q5;generalize List.range m=l
  induction l with
  |nil=>rfl
  |cons i l ih=>rw[waq,wbx,waG,ih];rfl
 rw[e];unfold ZS;rw[wac];refine wau fun i hi=>?_
 have:=h i (waJ.1 hi);show(if b<=b+k+s i/\b+k+s i<b+n then _ else _)=_;rw[Qc ⟨by omega,by omega⟩,Qc ⟨rfl,rfl,rfl⟩,show b+k+s i-b=k+s i by omega]
def zcZ(n:Nat)(g:Nat->Int):T:=eL cJ (fnG n g)
def Zw(R n:Nat)(g:Nat->Nat->Int):List (List RI):=fnG R fun i=>fnG n fun j=>Ys (g i j)
theorem zvO{n:Nat}{g:Nat->Int}:zcZ n g=eL cI (fnG n fun j=>Ys (g j)):=by
 unfold zcZ eL fnG;rw[wac,wac];rfl
theorem zxl{R n:Nat}{g:Nat->Nat->Int}:eL (fun i=>[zcZ n (g i)]) (List.range R)=eW (Zw R n g):=by
 unfold Zw;show T.seq none _=T.seq none _;congr 1;unfold fnG;rw[wac];exact wau fun i _=>by rw[zvO];rfl
theorem zah{R n:Nat}{g:Nat->Nat->Int}:(Zw R n g).length=R:=Zc
theorem zub{n:Nat}{g:Nat->Int}:TreeOf (Q5 cJ (fnG n g)) 2 n (zcZ n g):=by
 have:=Yl (f:=cJ) (xs:=fnG n g) Ye;rw[Zc]at this;exact this
theorem zmn{R n:Nat}{g:Nat->Nat->Int}:TreeOf (Q5 (fun i=>[zcZ n (g i)]) (List.range R)) 1 R (eW (Zw R n g)):=by
 have:=Yl (f:=fun i=>[zcZ n (g i)]) (sz:=1) (xs:=List.range R) (fun _=>rfl);rw[List.length_range,zxl]at this;exact this
end Go.Proofs.YtlgjjcmljmjenaaGreat
