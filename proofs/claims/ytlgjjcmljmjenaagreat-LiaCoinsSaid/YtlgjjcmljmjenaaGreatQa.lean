/- At every input the call answers true and leaves its arguments as they were; no conditions. -/
import Derived.Test.YtlgjjcmljmjenaaGreatAe
import Derived.Test.YtlgjjcmljmjenaaGreatPa
import Derived.Test.YtlgjjcmljmjenaaGreatRows
set_option linter.unusedSimpArgs false
set_option linter.unusedVariables false
set_option maxRecDepth 100000
namespace Go.Proofs.YtlgjjcmljmjenaaGreat
open Go Go.Abs Go.Proofs.Tryz Go.ChangeShapes Go.WideShapes Go.ChangeAt Go.RowKit
theorem Tryz.ownK:ownKnob prog.godebug=none:=by kernel_rfl
theorem Tryz.laidOut:laidOutB prog=true:=by kernel_rfl
theorem zyj{P:Program}{t:TypeId}{ts:List T}{k:IntKind}(ht:P.underlying t=some (.int k))(h:WT P t ts):∃ n,ts=[.lit (.int k n)]/\(Lit.int k n).wf=true:=by
 cases h with
 |bool h1=>rw[ht]at h1;cases h1
 |int h1 h2=>rw[ht]at h1;cases h1;exact⟨_,rfl,h2⟩
 |str h1 _=>rw[ht]at h1;cases h1
 |slice h1 _ _ _=>rw[ht]at h1;cases h1
 |struct h1 _ _=>rw[ht]at h1;cases h1
theorem zyk{n:Int}(h:(Lit.int .i64 n).wf=true) : -9223372036854775808<=n/\n<9223372036854775808:=by
 simp[Lit.wf,IntKind.min,IntKind.max,IntKind.signed,IntKind.bits]at h;omega
theorem zmt{n:Int}(h:(Lit.int .i8 n).wf=true) : -128<=n/\n<128:=by
 simp[Lit.wf,IntKind.min,IntKind.max,IntKind.signed,IntKind.bits]at h;omega
theorem zfL{n:Int}(h:(Lit.int .u8 n).wf=true):0<=n/\n<256:=by
 simp[Lit.wf,IntKind.min,IntKind.max,IntKind.signed,IntKind.bits]at h;omega
theorem zbO{t:TypeId}{k:IntKind}(ht:prog.underlying t=some (.int k)){tv:TV}(h:WTV prog t tv):∃ n,tv=tI k n/\(Lit.int k n).wf=true:=by
 unfold WTV at h;rw[ht]at h;obtain⟨x,rfl,h⟩:=h;obtain⟨n,hn,hw⟩:=zyj ht h;cases hn;exact⟨n,rfl,hw⟩
theorem zhf{P:Program}{tvs:List TV}(h:WTVs P [] tvs):tvs=[]:=by cases h;rfl
theorem zbJ{P:Program}{t:TypeId}{ts:List TypeId}{tvs:List TV}(h:WTVs P (t::ts) tvs):∃ x xs,tvs=x::xs/\WTV P t x/\WTVs P ts xs:=by
 cases h with|cons h1 h2=>exact⟨_,_,rfl,h1,h2⟩
theorem zlZ{n:Int}(h:(Lit.int .i16 n).wf=true) : -32768<=n/\n<32768:=by
 simp[Lit.wf,IntKind.min,IntKind.max,IntKind.signed,IntKind.bits]at h;omega
def zqI:List TypeId:=[4,28,89,30,23,2,21,48,49,5,3,77,73,34,27,32,22,127]
def zd1(t:TypeId):Bool:=zqI.contains t
theorem zhg:∀ t,zd1 t=true->zek prog zd1 t=true:=by
 have h:zqI.all (zek prog zd1)=true:=by kernel_rfl
 intro t ht;exact wac.1 h t (by simpa[zd1]using ht)
end Go.Proofs.YtlgjjcmljmjenaaGreat
