/- At every input the call answers true and leaves its arguments as they were; no conditions. -/
import Derived.Test.YtlgjjcmljmjenaaGreatWd
import Derived.Test.YtlgjjcmljmjenaaGreatQa
import Derived.Test.YtlgjjcmljmjenaaGreatSb
set_option linter.unusedSimpArgs false
set_option linter.unusedVariables false
set_option maxRecDepth 100000
set_option maxHeartbeats 32000000
namespace Go.Proofs.YtlgjjcmljmjenaaGreat
open Go Go.Abs Go.Proofs.Tryz
theorem zto(hD:zdh)(c:Int)(c1:0<=c)(c2:c<256)(k:Int)(k1 : -128<=k)(k2:k<128):Q7 prog 8 [tI .u8 c,tI .i8 k] (tB true):=by
 have hk:=zhk hD;obtain⟨w,hw,XM,Jz⟩:∃ w:Int,Int.tmod c 8=w/\0<=w/\w<8:=⟨c%8,wcp c1,by omega,by omega⟩
 obtain⟨m,hm⟩:∃ m,m=w+2:=⟨_,rfl⟩
 obtain⟨M,hM⟩:∃ M,M=k*m:=⟨_,rfl⟩
 have E6:M.natAbs<=128*9:=by rw[hM,wa9];exact wax (by omega) (by omega)
 have Fu : -k*m = -M:=by rw[hM,wbX]
 have e1:IntKind.wrap .i64 w=w:=Q4 (by omega) (by omega);have e2:IntKind.wrap .i64 (w+2)=m:=by rw[hm];exact Q4 (by omega) (by omega)
 have e4:IntKind.wrap .i64 k=k:=Q4 (by omega) (by omega);have e5:IntKind.wrap .i64 (0-k) = -k:=by rw[Q4 (by omega) (by omega)];omega
 have e6:IntKind.wrap .i64 (-k*m) = -M:=by rw[Fu];exact Q4 (by omega) (by omega)
 have e9:IntKind.wrap .i64 (k*m)=M:=by rw[<-hM];exact Q4 (by omega) (by omega)
 obtain⟨nm,WX⟩:∃ x,x = -m:=⟨_,rfl⟩
 obtain⟨a1,E8⟩:∃ x,x = -M-m+1:=⟨_,rfl⟩
 obtain⟨a2,OS⟩:∃ x,x=M+1:=⟨_,rfl⟩
 obtain⟨a3,OT⟩:∃ x,x = -M-m:=⟨_,rfl⟩
 have e3:IntKind.wrap .i64 (0-m)=nm:=by rw[Q4 (by omega) (by omega)];omega
 have e7:IntKind.wrap .i64 (-M-m)=a3:=by rw[Q4 (by omega) (by omega)];omega
 have e8:IntKind.wrap .i64 (a3+1)=a1:=by rw[Q4 (by omega) (by omega)];omega
 have e10:IntKind.wrap .i64 (M+1)=a2:=by rw[Q4 (by omega) (by omega)];omega
 have s1:=zfc (a:=m) (b:=nm) (k:=a1) (by omega) (by omega) (by omega);have s2:=zfc (a:=nm) (b:=m) (k:=a2) (by omega) (by omega) (by omega);have s3:=zfc (a:=m) (b:=nm) (k:=a3) (by omega) (by omega) (by omega);have v1:=zfr (a:=m) (b:=nm) (k:=a1) (by omega) (by omega) (by omega);have v2:=zfr (a:=nm) (b:=m) (k:=a2) (by omega) (by omega) (by omega);have v3:=zfr (a:=m) (b:=nm) (k:=a3) (by omega) (by omega) (by omega);have t1:=zfq m nm a1;have t2:=zfq nm m a2;have t3:=zfq m nm a3;generalize foJ a1 (fun j=>[m,nm].getD j 0) 0 2=F1 at *
 generalize foJ a2 (fun j=>[nm,m].getD j 0) 0 2=F2 at *
 generalize foJ a3 (fun j=>[m,nm].getD j 0) 0 2=F3 at *
 have X8:∀ p,¬Sat [F1,F2] p:=fun p hp=>by
  have:=zdN.1 hp;rw[t1,t2]at this;obtain⟨h1,h2⟩:=this;obtain⟨d,hd⟩:∃ d,d=p 0-p 1-k:=⟨_,rfl⟩
  have x1:m*d=m*p 0-m*p 1-M:=by rw[hd,hM,wbM,wbM,waz k m]
  have x2:nm*p 1 = -(m*p 1):=by rw[WX,wbX]
  have x3:nm*p 0 = -(m*p 0):=by rw[WX,wbX]
  rw[x2]at h1;rw[x3]at h2;by_cases c:d<=0
  .have:m*d<=0:=Int.mul_nonpos_of_nonneg_of_nonpos (by omega) c
   omega
  .have:m*1<=m*d:=wbj (by omega) (by omega)
   omega
 have UR:Sat [F3,F2] fun v=>if v=0 then k+1 else 0:=zdN.2 (by
  rw[t3,t2];have x1:m*(k+1)=M+m:=by rw[hM,wbz,waz m k,wa4]
  have x3:nm*(k+1) = -(M+m):=by rw[WX,wbX,x1]
  show a3+m*(k+1)+nm*0<=0/\a2+nm*(k+1)+m*0<=0;rw[x1,x3];omega)
 rcases zkk (n:=2) (by decide) v1 v2 with⟨p,hp,_⟩|⟨_,Uk⟩
 .exact Qn hp (X8 p)
 rcases zkk (n:=2) (by decide) v3 v2 with⟨p,_,_,KN,ha⟩|⟨hp,_⟩
 rotate_left 1
 .exact Qn UR (hp _)
 have Y5:QP cF [F1,F2] 1=cF F2:=rfl;generalize fnG 2 p=X at *
 clear hM E6 Fu hm WX E8 OS OT t1 t2 t3 X8 UR v1 v2 v3;refine QH QB call8 func8 rfl ntmps8 results8 (by simp) (by decide) ?_;simp only[go_sem];((repeat(refine Q3 0 rfl ?_;simp only[go_sem,hw,e1,e2,e3,e4,e5,e6,e7,e8,e9,e10]));refine Q2 (hk) rfl ?_;simp only[go_sem,hw,e1,e2,e3,e4,e5,e6,e7,e8];(repeat(refine Q3 0 rfl ?_;simp only[go_sem,hw,e1,e2,e3,e4,e5,e6,e7,e8,e9,e10]));refine Q2 (s1) rfl ?_;simp only[go_sem,e3,e4,e9,e10];(repeat(refine Q3 0 rfl ?_;simp only[go_sem,hw,e1,e2,e3,e4,e5,e6,e7,e8,e9,e10]));refine Q2 (s2) rfl ?_;simp only[go_sem];(repeat(refine Q3 0 rfl ?_;simp only[go_sem,hw,e1,e2,e3,e4,e5,e6,e7,e8,e9,e10]));refine Q2 (Uk) rfl ?_;simp only[go_sem];(repeat(refine Q3 0 rfl ?_;simp only[go_sem,e3,e4,e5,e6,e7]));refine Q2 (s3) rfl ?_;simp only[go_sem];(repeat(refine Q3 0 rfl ?_;simp only[go_sem,hw,e1,e2,e3,e4,e5,e6,e7,e8,e9,e10])));refine⟨by simp,?_⟩;((repeat(refine Q3 0 rfl ?_;simp only[go_sem,hw,e1,e2,e3,e4,e5,e6,e7,e8,e9,e10]));refine Q2 (KN) rfl ?_;simp only[go_sem];(repeat(refine Q3 0 rfl ?_;simp only[go_sem,hw,e1,e2,e3,e4,e5,e6,e7,e8,e9,e10]));refine Q2 (ha) rfl ?_;simp only[go_sem];(repeat(refine Q3 0 rfl ?_;simp only[go_sem,hw,e1,e2,e3,e4,e5,e6,e7,e8,e9,e10])))
end Go.Proofs.YtlgjjcmljmjenaaGreat
namespace Go.Proofs.YtlgjjcmljmjenaaGreat
open Go Go.Abs Go.Proofs.Tryz Go.ChangeShapes Go.WideShapes Go.ChangeAt Go.RowKit
theorem zrF(os:Os)(started:os.Started)(H:Type)(enc:TypeId×Value->H) :
  ReturnsInHanded {} Tryz.checked os 8 .any (Rows.liaThinSpec.pre6 enc prog Tryz.f8 Rows.liaThinRow.domain false) (Rows.liaThinSpec.post enc prog Tryz.f8 false true false false):=by
 refine returnsInHanded_of_change (C:=Tryz.checked) Tryz.ownK started (by kernel_rfl) func8
  (ChangeSpec.witness6 (enc:=enc) (C:=Tryz.checked) false ⟨#[],#[.int .u8 0,.int .i8 0],[]⟩ 8 (by kernel_rfl) (by kernel_rfl) (by kernel_rfl) (by kernel_rfl)) ?_
 intro W base args ds gs before YJ hW _ _;refine zgR (S:=zd1) (tb:=4) zhg Tryz.laidOut (by intro t ht;revert t;decide +kernel) rfl Tryz.underlying4 rfl (fun ds h=>?_) (fun tvs h=>?_) YJ hW
 .match ds,h with
  |[d0,d1],_=>rfl
 .obtain⟨x0,_,rfl,h0,h⟩:=zbJ h
  obtain⟨x1,_,rfl,h1,h⟩:=zbJ h;obtain rfl:=zhf h;obtain⟨n0,rfl,k0⟩:=zbO Tryz.underlying5 h0;have k0:=zfL k0;obtain⟨n1,rfl,k1⟩:=zbO Tryz.underlying48 h1;have k1:=zmt k1;exact zto zhn n0 k0.1 k0.2 n1 k1.1 k1.2
theorem liaThin_holds:Rows.LiaThinSaid :=
 OpenClaim.holds_of_wide 8 Tryz.f8 rfl rfl rfl rfl rfl rfl rfl ⟨rfl,rfl,rfl,rfl,rfl⟩ rfl rfl rfl rfl rfl (by kernel_rfl) func8 (by kernel_rfl)
  (of_decide_eq_true (by kernel_rfl)) (by unfold Func.isWrapper;first|(rw[Qc (by decide +kernel)];kernel_rfl)|(rw[Qb (by decide +kernel)];exact⟨rfl,rfl⟩))
  (fun os started H enc _=>zrF os started H enc)
end Go.Proofs.YtlgjjcmljmjenaaGreat
