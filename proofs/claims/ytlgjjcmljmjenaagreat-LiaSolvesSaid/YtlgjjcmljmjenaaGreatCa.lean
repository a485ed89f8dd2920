/- At every input the call answers true and leaves its arguments as they were; no conditions. -/
import Derived.Test.YtlgjjcmljmjenaaGreatHb
import Derived.Test.YtlgjjcmljmjenaaGreatAe
set_option linter.unusedSimpArgs false
set_option linter.unusedVariables false
set_option maxRecDepth 100000
set_option maxHeartbeats 8000000
namespace Go.Proofs.YtlgjjcmljmjenaaGreat
open Go Go.Abs Go.Proofs.Tryz
abbrev QQ:=Bool×List Nat×List Nat
def cQ(q:QQ):List T:=[.lit (.bool q.1),eN q.2.1,eN q.2.2]
def cR(x:Rat):List T:=[.lit (.bool (decide (x.num<0))),eN (dig x.num.natAbs),eN (dig x.den)]
theorem zat(x:Rat):(cR x).length=3:=rfl
abbrev tLR(l:List Rat):TV:=.one (eL cR l)
abbrev aLR(l:List Rat):AV:=.one (.t (eL cR l))
attribute [go_sem] cQ cR
def qQ(q:QQ):Rat:=qv q.1 q.2.1 q.2.2
def zfI(x:Rat):QQ:=(decide (x.num<0),dig x.num.natAbs,dig x.den)
theorem zjw(x:Rat):qQ (zfI x)=x:=zrn x
theorem zqU(l:List Rat):eL cQ (l.map zfI)=eL cR l:=by unfold eL;rw[wac];rfl
theorem zzl{ys:List Rat}{i:Nat}(hi:i<ys.length){q:Rat}:(Q5 cR ys).take (i*3)++C.t (.lit (.bool (decide (q.num<0))))::C.t (eN (dig q.num.natAbs))::C.t (eN (dig q.den))::(Q5 cR ys).drop (i*3+3)=Q5 cR (ys.set i q):=by
 have:=zgU (f:=cR) (sz:=3) zat hi (y:=q);rw[<-this];simp[Yh,cR]
abbrev z3:List C:=[.t (.lit (.bool false)),.t (.seq (some true) []),.t (.seq (some true) [])]
def cZ(q:Option Rat):List T:=match q with|some x=>cR x|none=>[.lit (.bool false),eN [],eN []]
theorem zqV(q:Option Rat):(cZ q).length=3:=by cases q<;>rfl
theorem ze1:∀ n:Nat,WeakL (Zg n z3) (Q5 cZ (List.replicate n none))
 |0=>.nil
 |n+1=>by
  have ih:=ze1 n;unfold Zg at ih ⊢;rw[wbp,wbp,wbx,zcq];exact .cons .refl (.cons .seq (.cons .seq ih))
theorem zgw(l:List Rat):Q5 cZ (l.map some)=Q5 cR l:=by
 unfold Q5;rw[wac];rfl
theorem zgC{ys:List (Option Rat)}{i:Nat}(hi:i<ys.length){q:Rat}:(Q5 cZ ys).take (i*3)++C.t (.lit (.bool (decide (q.num<0))))::C.t (eN (dig q.num.natAbs))::C.t (eN (dig q.den))::(Q5 cZ ys).drop (i*3+3)=Q5 cZ (ys.set i (some q)):=by
 have:=zgU (f:=cZ) (sz:=3) zqV hi (y:=some q);rw[<-this];simp[Yh,cZ,cR]
theorem zgg{ys:List (Option Rat)}:(Q5 cZ ys).length=ys.length*3:=zcC zqV
theorem zfR{l:List Rat}{n i:Nat}(hi:i<l.length)(hn:l.length<=n):((l.take i).map some++List.replicate (n-i) none).set i (some l[i])=(l.take (i+1)).map some++List.replicate (n-(i+1)) none:=by
 rw[wdO,Qb (by simp;omega),show i-((l.take i).map some).length=0 by simp;omega,show n-i=(n-(i+1))+1 by omega,wbp,List.set_cons_zero,Zd hi,waG,waM];rfl
theorem zgh(p:Int)(ha:lN p<1000000000000):Q9 prog 102 [eI p] (eQ (p:Rat)):=by
 have:=zmm (decide (p<0)) (dig p.natAbs) ha;rwa[Z2]at this
end Go.Proofs.YtlgjjcmljmjenaaGreat
