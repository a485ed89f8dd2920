/- At every input the call answers true and leaves its arguments as they were; no conditions. -/
import Derived.Test.YtlgjjcmljmjenaaGreatUc
import Derived.Test.YtlgjjcmljmjenaaGreatAk
import Derived.Test.YtlgjjcmljmjenaaGreatNb
set_option linter.unusedSimpArgs false
set_option linter.unusedVariables false
set_option maxRecDepth 100000
namespace Go.Proofs.YtlgjjcmljmjenaaGreat
open Go Go.Abs Go.Proofs.Tryz
theorem zg4(p:Nat->Prop):∀ R:Nat,∃ T,T<=R/\(∀ r,r<T->¬p r)/\(T<R->p T)
 |0=>⟨0,Qd _,fun r h=>by omega,fun h=>by omega⟩
 |R+1=>by
  obtain⟨T,h1,h2,h3⟩:=zg4 p R;by_cases c:T<R
  .exact⟨T,by omega,h2,fun _=>h3 c⟩
  .obtain rfl:T=R:=by omega
   by_cases d:p T
   .exact⟨T,by omega,h2,fun _=>d⟩
   .exact⟨T+1,by omega,fun r hr=>by
     by_cases e:r=T
     .rw[e];exact d
     .exact h2 r (by omega),fun h=>by omega⟩
theorem ztJ{a:List (List RI)}{b:List RI}{n:Nat}{S:HX}{pv:Nat->Int}{kk:Nat->Nat}{T:Nat}(hp:Piv S n a.length kk pv)(hi:InvH (atW a) n a.length S)(hT:T<=a.length)(XW:T<a.length->zcZ S pv kk (atR b) T)
  {x:Nat->Int} (hx:∀ r,r<a.length->smI (fun j=>atW a r j*x j) n=atR b r):T=a.length:=by
 by_cases c:T<a.length
 .exact((zoV (b:=atR b) hp (z:=fun j=>smI (fun i=>S.v j i*x i) n) (fun r hr=>by rw[hi.vx x hr,hx r hr]) T hT).2 c (XW c)).elim
 .omega
end Go.Proofs.YtlgjjcmljmjenaaGreat
