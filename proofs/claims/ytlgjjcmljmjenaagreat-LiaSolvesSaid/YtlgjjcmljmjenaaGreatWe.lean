/- At every input the call answers true and leaves its arguments as they were; no conditions. -/
import Derived.Test.YtlgjjcmljmjenaaGreatWd
set_option linter.unusedSimpArgs false
set_option linter.unusedVariables false
set_option maxRecDepth 100000
set_option maxHeartbeats 16000000
namespace Go.Proofs.YtlgjjcmljmjenaaGreat
open Go Go.Abs Go.Proofs.Tryz
def okL(k:Nat)(l:LL):Prop:=IsL l/\∀ m∈l.1,m.1<(k:Int)
theorem zqj:∀ {l:List MM} {n:Int},IsM n l->∀ m∈l,n<m.1
 |[],_,_,m,hm=>by cases hm
 |x::l,n,h,m,hm=>by
  rcases wab.1 hm with rfl|hm
  .exact h.1
  .have:=zqj h.2.2.2 m hm
   have:=h.1;omega
theorem zkI:∀ {l:List MM} {n:Int},IsM n l->∀ m∈l,∀ z,l.getLast? = some z->m.1<=z.1
 |[],_,_,m,hm,_,_=>by cases hm
 |[x],n,h,m,hm,z,hz=>by
  obtain rfl:=Qr.1 hm;cases hz;exact wbi _
 |x::y::l,n,h,m,hm,z,hz=>by
  have L0:(y::l).getLast? = some z:=by rw[<-hz,List.getLast?_cons_cons]
  rcases wab.1 hm with rfl|hm
  .have h1:=zkI h.2.2.2 y wam z L0
   have h2:=h.2.2.2.1;omega
  .exact zkI h.2.2.2 m hm z L0
theorem zpe{k:Nat}{l:LL}:zbH k l↔¬okL k l:=by
 unfold zbH okL;constructor
 .rintro(h|h|⟨h1,h2⟩) ⟨a,b⟩
  .exact h a
  .omega
  .have hm:=Qh (l:=l.1) (n:=l.1.length-1) (by have:=wa6.2 h1;omega)
   have h3:=b _ hm;unfold zdY at h2;rw[zfZ h1]at h2;have h2:(k:Int)<=(l.1[l.1.length-1]'_).1:=h2;omega
 .intro h
  by_cases a:IsL l
  .refine .inr (.inr ?_)
   have hne:l.1≠[]:=fun e=>h ⟨a,fun m hm=>by rw[e]at hm;cases hm⟩
   refine⟨hne,?_⟩;refine waD fun c=>h ⟨a,fun m hm=>?_⟩
   unfold zdY at c;rw[zfZ hne]at c;have c:¬(k:Int)<=(l.1[l.1.length-1]'_).1:=c;have:=zkI a.1 m hm _ (zfZ hne);omega
  .exact .inl a
theorem zwl{ls:List LL}{k:Nat}(h1:ls.length<=60)(h2:k<=40):(¬(∀ l∈ls,okL k l)->zd7 ls k=10)/\((∀ l∈ls,okL k l)->zd7 ls k=0):=by
 unfold zd7;rw[Qb (by omega)];constructor
 .intro h
  rw[Qc];refine .inl (waD fun c=>h fun l hl=>waD fun d=>c ⟨l,hl,zpe.2 d⟩)
 .intro h
  rw[Qb];rintro(⟨l,hl,hb⟩|hb)
  .exact zpe.1 hb (h l hl)
  .omega
theorem zqk{k:Nat}{l:LL}(h:okL k l)(hf:FL2 l):Fv k 1 1 (lv l):=by
 have e:lv l=(l.1.map dM,iv l.2.1 l.2.2):=Qc h.1;refine⟨zjH l,fun m hm=>?_,fun m hm=>?_,?_⟩
 .rw[e]at hm
  obtain⟨x,hx,rfl⟩:=Qp.1 hm;have h1:=h.2 x hx;have h2:=zqj h.1.1 x hx;show x.1.toNat<k;omega
 .rw[e]at hm
  obtain⟨x,hx,rfl⟩:=Qp.1 hm;have:=hf.2 x hx;show lN (iv x.2.1 x.2.2)<=1;exact zap (by omega)
 .rw[e]
  have:=hf.1.2;show lN (iv l.2.1 l.2.2)<=1;exact zap (by omega)
theorem zql{ls:List LL}(h:∀ l∈ls,IsL l):eL cL ls=eL cF (ls.map lv):=by
 unfold eL;rw[wac];refine congrArg (Abs.T.seq none) (wau fun l hl=>?_);have:=zmd (h l hl);injection this
theorem zqm(ls:List LL){k:Nat}(hk:k<=4)(hl:ls.length<=8)(hf:∀ l∈ls,FL2 l)(hb:∀ l∈ls,zfD l) :
  (¬(∀ l∈ls,okL k l)/\Q9 prog 13 [.one (eL cL ls),tI .i64 k] (.tup [.one (.seq (some true) []),tB false,tI .i64 10])) \/
  ((∀ l∈ls,okL k l)/\eL cL ls=eL cF (ls.map lv)/\(∀ f∈ls.map lv,Fv k 1 1 f)/\∃ o,zbE (ls.map lv) k 840000000 o/\Q9 prog 13 [.one (eL cL ls),tI .i64 k] (.tup [xT k o,tB o.isSome,tI .i64 0])):=by
 obtain⟨e1,e2⟩:=zwl (ls:=ls) (k:=k) (by omega) (by omega);by_cases c:∀ l∈ls,okL k l
 .refine .inr ⟨c,zql fun l hl=>(c l hl).1,?_,?_⟩
  .intro f Fq
   obtain⟨l,hl,rfl⟩:=Qp.1 Fq;exact zqk (c l hl) (hf l hl)
  .obtain⟨o,h1,h2⟩:=zhu (ls.map lv) hk (by rw[Qm];exact hl) fun f Fq=>by
    obtain⟨l,hl,rfl⟩:=Qp.1 Fq;exact zqk (c l hl) (hf l hl)
   rw[<-zql fun l hl=>(c l hl).1]at h2;exact⟨o,h1,h2⟩
 .have hw:=zsR ls k (by omega) (by omega) (by omega) fun l hl=>⟨by have:=(hf l hl).1.1;omega,fun m hm=>⟨(hb l hl).2.1 m hm,(hb l hl).1.2 m hm⟩,(hb l hl).2.2⟩
  rw[e1 c]at hw;exact .inl ⟨c,znl ls k 10 (by decide) hw⟩
end Go.Proofs.YtlgjjcmljmjenaaGreat
