/- At every input the call answers true and leaves its arguments as they were; no conditions. -/
import Derived.Test.YtlgjjcmljmjenaaGreatDb
import Derived.Test.YtlgjjcmljmjenaaGreatCc
import Derived.Test.YtlgjjcmljmjenaaGreatPa
set_option linter.unusedSimpArgs false
set_option linter.unusedVariables false
set_option maxRecDepth 100000
set_option maxHeartbeats 16000000
namespace Go.Proofs.YtlgjjcmljmjenaaGreat
open Go Go.Abs Go.Proofs.Tryz
abbrev lF(c k:Int):Fm:=([(0,c)],k)
theorem zwK{c:Int}(hc:c≠0)(k:Int):QP (scF (Z7 0) c) (Ze k)=lF c k:=by
 unfold scF;rw[Qb hc];show(mer [(0,(1:Int)*c)] [],(0:Int)*c+k)=_;rw[zc0,wcq,wbc,wb3]
theorem zwL(f:Fm):cL (ZP f)=cF f:=by
 show[eL cM (f.1.map eMn),_,_]=_;rw[zjs];rfl
theorem zlt(fs:List Fm):eL cL (fs.map ZP)=eL cF fs:=by
 unfold eL;rw[wac];exact congrArg (T.seq none) (wau fun f _=>zwL f)
end Go.Proofs.YtlgjjcmljmjenaaGreat
