/- At every input the call answers true and leaves its arguments as they were; no conditions. -/
import Derived.Test.YtlgjjcmljmjenaaGreatWd
import Derived.Test.YtlgjjcmljmjenaaGreatQa
import Derived.Test.YtlgjjcmljmjenaaGreatSb
set_option linter.unusedSimpArgs false
set_option linter.unusedVariables false
set_option maxRecDepth 100000
set_option maxHeartbeats 32000000
namespace Go.Proofs.YtlgjjcmljmjenaaGreat
open Go Go.Abs Go.Proofs.Tryz
theorem zww{lo hi m:Int}(hm:0<m):(∃ x:Int,m*x-hi<=0/\-(m*x)+lo<=0)↔lo<=Int.fdiv hi m*m:=by
 have e:=Int.mul_fdiv_add_fmod hi m;have h0:=wdh hi hm;have h1:=wdi hi hm;constructor
 .rintro⟨x,a,b⟩
  have hx:x<=Int.fdiv hi m:=by
   refine waF fun c=>?_
   have h2:m*(Int.fdiv hi m+1)<=m*x:=wbj (by omega) (by omega);rw[wbz,wa4]at h2;omega
  have h2:m*x<=m*Int.fdiv hi m:=wbj hx (by omega);rw[waz m (Int.fdiv hi m)]at h2;omega
 .intro h
  refine⟨Int.fdiv hi m,?_,?_⟩
  .omega
  .rw[waz m];omega
theorem zuN{hi m:Int}(hm:0<m):(if Int.tmod hi m<0 then Int.tdiv hi m-1 else Int.tdiv hi m)=Int.fdiv hi m:=by
 have e:m*Int.tdiv hi m+Int.tmod hi m=hi:=by have:=Int.tmod_add_mul_tdiv hi m;omega
 have e2:=Int.mul_fdiv_add_fmod hi m;have h0:=wdh hi hm;have h1:=wdi hi hm;have t1:Int.tmod hi m<m:=Int.tmod_lt_of_pos hi hm;have t2 : -m<Int.tmod hi m:=Int.lt_tmod_of_pos hi hm;have key:∀ q:Int,(∃ r,0<=r/\r<m/\m*q+r=hi)->q=Int.fdiv hi m:=by
  rintro q ⟨r,r0,r1,hr⟩;rcases wbF q (Int.fdiv hi m)with c|c|c
  .have:m*(q+1)<=m*Int.fdiv hi m:=wbj (by omega) (by omega)
   rw[wbz,wa4]at this;omega
  .exact c
  .have:m*(Int.fdiv hi m+1)<=m*q:=wbj (by omega) (by omega)
   rw[wbz,wa4]at this;omega
 by_cases c:Int.tmod hi m<0
 .rw[Qc c]
  refine key _ ⟨Int.tmod hi m+m,by omega,by omega,?_⟩;rw[wbM,wa4];omega
 .rw[Qb c]
  exact key _ ⟨Int.tmod hi m,by omega,by omega,e⟩
theorem zsN(hD:zdh)(lo:Int)(l1 : -32768<=lo)(l2:lo<32768)(hi:Int)(h1 : -32768<=hi)(h2:hi<32768)(c:Int)(c1:0<=c)(c2:c<256):Q7 prog 7 [tI .i16 lo,tI .i16 hi,tI .u8 c] (tB true):=by
 have hk:=zhk hD;obtain⟨w,hw,XM,Jz⟩:∃ w:Int,Int.tmod c 9=w/\0<=w/\w<9:=⟨c%9,wcp c1,by omega,by omega⟩
 obtain⟨m,hm⟩:∃ m,m=w+1:=⟨_,rfl⟩
 have Ku:=zww (lo:=lo) (hi:=hi) (m:=m) (by omega);have Um:=zuN (hi:=hi) (m:=m) (by omega);have Re:(m=0)=False:=Ql (by omega);obtain⟨nm,WX⟩:∃ x,x = -m:=⟨_,rfl⟩
 obtain⟨nh,Me⟩:∃ x,x = -hi:=⟨_,rfl⟩
 have e1:IntKind.wrap .i64 w=w:=Q4 (by omega) (by omega);have e2:IntKind.wrap .i64 (w+1)=m:=by rw[hm];exact Q4 (by omega) (by omega)
 have e3:IntKind.wrap .i64 hi=hi:=Q4 (by omega) (by omega);have e4:IntKind.wrap .i64 (0-hi)=nh:=by rw[Q4 (by omega) (by omega)];omega
 have e5:IntKind.wrap .i64 (0-m)=nm:=by rw[Q4 (by omega) (by omega)];omega
 have e6:IntKind.wrap .i64 lo=lo:=Q4 (by omega) (by omega);have f1:=zeA m nh (by omega) (by omega) (by omega);have f2:=zeA nm lo (by omega) (by omega) (by omega);have v1:=zeM (c:=m) (k:=nh) (by omega) (by omega) (by omega);have v2:=zeM (c:=nm) (k:=lo) (by omega) (by omega) (by omega);have t1:=zcB m nh;have t2:=zcB nm lo;generalize lF m nh=F1 at *
 generalize lF nm lo=F2 at *
 obtain⟨Q,hQ⟩:∃ Q,Q=Int.fdiv hi m:=⟨_,rfl⟩
 rw[<-hQ]at Um Ku;obtain⟨T,hT⟩:∃ T,T=Int.tdiv hi m:=⟨_,rfl⟩
 obtain⟨D,J9⟩:∃ D,D=Int.tmod hi m:=⟨_,rfl⟩
 have Dj : -32769<=T/\T<=32769:=by
  have e:m*Int.tdiv hi m+Int.tmod hi m=hi:=by have:=Int.tmod_add_mul_tdiv hi m;omega
  rw[<-hT,<-J9]at e;have t1:D<m:=by rw[J9];exact Int.tmod_lt_of_pos hi (by omega)
  have t2 : -m<D:=by rw[J9];exact Int.lt_tmod_of_pos hi (by omega)
  constructor
  .refine waF fun c=>?_
   have:m*T<=m*(-32770):=wbj (by omega) (by omega);omega
  .refine waF fun c=>?_
   have:m*32770<=m*T:=wbj (by omega) (by omega);omega
 rw[<-hT,<-J9]at Um;have SH : -10<=D/\D<=10:=by
  have t1:D<m:=by rw[J9];exact Int.tmod_lt_of_pos hi (by omega)
  have t2 : -m<D:=by rw[J9];exact Int.lt_tmod_of_pos hi (by omega)
  omega
 have e7:IntKind.wrap .i64 T=T:=Q4 (by omega) (by omega);have e8:IntKind.wrap .i64 D=D:=Q4 (by omega) (by omega);have SI : -32770<=Q/\Q<=32769:=by rw[<-Um];split<;>omega
 obtain⟨QM,Dk⟩:∃ QM,QM=Q*m:=⟨_,rfl⟩
 have OU:QM.natAbs<=32770*9:=by rw[Dk,wa9];exact wax (by omega) (by omega)
 have e9:IntKind.wrap .i64 (Q*m)=QM:=by rw[<-Dk];exact Q4 (by omega) (by omega)
 rw[<-Dk]at Ku;have o1:=zbt m (by omega) (by omega);have o2:=zbt lo (by omega) (by omega);have lm:lN m<=1:=ZQ (by omega);have ll:lN lo<=1:=ZQ (by omega);have e10:IntKind.wrap .i64 Q=Q:=Q4 (by omega) (by omega);have Nh:(D<0)=True/\IntKind.wrap .i64 (T-1)=Q\/(D<0)=False/\T=Q:=by
  by_cases hd:D<0
  .rw[Qc hd]at Um
   exact .inl ⟨Qh hd,by rw[Um];exact Q4 (by omega) (by omega)⟩
  .rw[Qb hd]at Um
   exact .inr ⟨Ql hd,Um⟩
 rcases zkk (n:=1) (by decide) v1 v2 with⟨p,hp,RE,hs,_⟩|⟨X8,hs⟩
 .have hp:=zdN.1 hp
  rw[t1,t2]at hp;have x1:nm*p 0 = -(m*p 0):=by rw[WX,wbX]
  rw[x1]at hp;have YI:lo<=QM:=Ku.1 ⟨p 0,by omega,by omega⟩;have Kv:(QM≥lo)=True:=Qh YI;have US:(lo<=QM)=True:=Qh YI;have hx:fnG 1 p=[p 0]:=rfl;rw[hx]at hs;have lp:=RE 0 (by decide);have lx:=ZS (p 0) m;have o3:=zpb (p 0) m (by omega) (by omega);have o4:=zvN (p 0*m) lo (by omega) (by omega);have R9:Za (p 0*m) lo≥0:=by
   have:lo<=p 0*m:=by rw[waz];omega
   unfold Za;split
   .omega
   .split<;>decide
  have Un:(Za (p 0*m) lo≥0)=True:=Qh R9;have X6:(0<=Za (p 0*m) lo)=True:=Un;generalize p 0=x at *
  generalize x*m=y at *
  generalize Za y lo=z at *
  clear Ku Um hQ Dk hp YI R9 RE lx lp lm ll x1 t1 t2 v1 v2 WX Me hm;refine QH QB call7 func7 rfl ntmps7 results7 (by simp) (by decide) ?_;simp only[go_sem];((repeat(refine Q3 0 rfl ?_;simp only[go_sem,hw,e1,e2,e3,e4,e5,e6]));refine Q2 (hk) rfl ?_;simp only[go_sem,hw,e1,e2,e3,e4];(repeat(refine Q3 0 rfl ?_;simp only[go_sem,hw,e1,e2,e3,e4,e5,e6]));refine Q2 (f1) rfl ?_;simp only[go_sem,e5,e6];(repeat(refine Q3 0 rfl ?_;simp only[go_sem,hw,e1,e2,e3,e4,e5,e6]));refine Q2 (f2) rfl ?_;simp only[go_sem];(repeat(refine Q3 0 rfl ?_;simp only[go_sem,hw,e1,e2,e3,e4,e5,e6]));refine Q2 (hs) rfl ?_;simp only[go_sem,e3];(repeat(refine Q3 0 rfl ?_;simp only[go_sem,hw,e1,e2,e3,e4,e5,e6])));have Y5:QP cJ [x] 0=cJ x:=rfl;rcases Nh with⟨Ui,VY⟩|⟨Ui,VY⟩
  .simp only[go_sem,Re,<-hT,<-J9,e7,Ui,VY]
   refine Q3 0 rfl ?_;simp only[go_sem,e6,e9,Kv,Y5]
   (repeat(refine Qg (by omega) ?_))
   ((repeat(refine Q3 0 rfl ?_;simp only[go_sem,e6,e9,Un,X6]));refine Q2 (o1) rfl ?_;simp only[go_sem];(repeat(refine Q3 0 rfl ?_;simp only[go_sem,e6,e9,Un,X6]));refine Q2 (o3) rfl ?_;simp only[go_sem,e6];(repeat(refine Q3 0 rfl ?_;simp only[go_sem,e6,e9,Un,X6]));refine Q2 (o2) rfl ?_;simp only[go_sem];(repeat(refine Q3 0 rfl ?_;simp only[go_sem,e6,e9,Un,X6]));refine Q2 (o4) rfl ?_;simp only[go_sem,Un];(repeat(refine Q3 0 rfl ?_;simp only[go_sem,e6,e9,Un,X6])))
  .simp only[go_sem,Re,<-hT,<-J9,Ui,VY,e10]
   refine Q3 0 rfl ?_;simp only[go_sem,e6,e9,Kv,Y5]
   (repeat(refine Qg (by omega) ?_))
   ((repeat(refine Q3 0 rfl ?_;simp only[go_sem,e6,e9,Un,X6]));refine Q2 (o1) rfl ?_;simp only[go_sem];(repeat(refine Q3 0 rfl ?_;simp only[go_sem,e6,e9,Un,X6]));refine Q2 (o3) rfl ?_;simp only[go_sem,e6];(repeat(refine Q3 0 rfl ?_;simp only[go_sem,e6,e9,Un,X6]));refine Q2 (o2) rfl ?_;simp only[go_sem];(repeat(refine Q3 0 rfl ?_;simp only[go_sem,e6,e9,Un,X6]));refine Q2 (o4) rfl ?_;simp only[go_sem,Un];(repeat(refine Q3 0 rfl ?_;simp only[go_sem,e6,e9,Un,X6])))
 .have Y1:¬lo<=QM:=fun h=>by
   obtain⟨x,a,b⟩:=Ku.2 h;refine X8 (fun _=>x) (zdN.2 ?_);rw[t1,t2];show nh+m*x<=0/\lo+nm*x<=0;have x1:nm*x = -(m*x):=by rw[WX,wbX]
   rw[x1];omega
  have Kv:(QM≥lo)=False:=Ql Y1;have US:(lo<=QM)=False:=Kv;clear Ku Um hQ Dk X8 Y1 lm ll t1 t2 v1 v2 WX Me hm;refine QH QB call7 func7 rfl ntmps7 results7 (by simp) (by decide) ?_;simp only[go_sem];((repeat(refine Q3 0 rfl ?_;simp only[go_sem,hw,e1,e2,e3,e4,e5,e6]));refine Q2 (hk) rfl ?_;simp only[go_sem,hw,e1,e2,e3,e4];(repeat(refine Q3 0 rfl ?_;simp only[go_sem,hw,e1,e2,e3,e4,e5,e6]));refine Q2 (f1) rfl ?_;simp only[go_sem,e5,e6];(repeat(refine Q3 0 rfl ?_;simp only[go_sem,hw,e1,e2,e3,e4,e5,e6]));refine Q2 (f2) rfl ?_;simp only[go_sem];(repeat(refine Q3 0 rfl ?_;simp only[go_sem,hw,e1,e2,e3,e4,e5,e6]));refine Q2 (hs) rfl ?_;simp only[go_sem,e3];(repeat(refine Q3 0 rfl ?_;simp only[go_sem,hw,e1,e2,e3,e4,e5,e6])));rcases Nh with⟨Ui,VY⟩|⟨Ui,VY⟩
  .simp only[go_sem,Re,<-hT,<-J9,e7,Ui,VY]
   refine Q3 0 rfl ?_;simp only[go_sem,e6,e9,Kv]
  .simp only[go_sem,Re,<-hT,<-J9,Ui,VY,e10]
   refine Q3 0 rfl ?_;simp only[go_sem,e6,e9,Kv]
end Go.Proofs.YtlgjjcmljmjenaaGreat
namespace Go.Proofs.YtlgjjcmljmjenaaGreat
open Go Go.Abs Go.Proofs.Tryz Go.ChangeShapes Go.WideShapes Go.ChangeAt Go.RowKit
theorem zrD(os:Os)(started:os.Started)(H:Type)(enc:TypeId×Value->H) :
  ReturnsInHanded {} Tryz.checked os 7 .any (Rows.liaBoxesSpec.pre6 enc prog Tryz.f7 Rows.liaBoxesRow.domain false) (Rows.liaBoxesSpec.post enc prog Tryz.f7 false true false false):=by
 refine returnsInHanded_of_change (C:=Tryz.checked) Tryz.ownK started (by kernel_rfl) func7
  (ChangeSpec.witness6 (enc:=enc) (C:=Tryz.checked) false ⟨#[],#[.int .i16 0,.int .i16 0,.int .u8 0],[]⟩ 8 (by kernel_rfl) (by kernel_rfl) (by kernel_rfl) (by kernel_rfl)) ?_
 intro W base args ds gs before YJ hW _ _;refine zgR (S:=zd1) (tb:=4) zhg Tryz.laidOut (by intro t ht;revert t;decide +kernel) rfl Tryz.underlying4 rfl (fun ds h=>?_) (fun tvs h=>?_) YJ hW
 .match ds,h with
  |[d0,d1,d2],_=>rfl
 .obtain⟨x0,_,rfl,h0,h⟩:=zbJ h
  obtain⟨x1,_,rfl,h1,h⟩:=zbJ h;obtain⟨x2,_,rfl,h2,h⟩:=zbJ h;obtain rfl:=zhf h;obtain⟨n0,rfl,k0⟩:=zbO Tryz.underlying49 h0;have k0:=zlZ k0;obtain⟨n1,rfl,k1⟩:=zbO Tryz.underlying49 h1;have k1:=zlZ k1;obtain⟨n2,rfl,k2⟩:=zbO Tryz.underlying5 h2;have k2:=zfL k2;exact zsN zhn n0 k0.1 k0.2 n1 k1.1 k1.2 n2 k2.1 k2.2
theorem liaBoxes_holds:Rows.LiaBoxesSaid :=
 OpenClaim.holds_of_wide 7 Tryz.f7 rfl rfl rfl rfl rfl rfl rfl ⟨rfl,rfl,rfl,rfl,rfl⟩ rfl rfl rfl rfl rfl (by kernel_rfl) func7 (by kernel_rfl)
  (of_decide_eq_true (by kernel_rfl)) (by unfold Func.isWrapper;first|(rw[Qc (by decide +kernel)];kernel_rfl)|(rw[Qb (by decide +kernel)];exact⟨rfl,rfl⟩))
  (fun os started H enc _=>zrD os started H enc)
end Go.Proofs.YtlgjjcmljmjenaaGreat
