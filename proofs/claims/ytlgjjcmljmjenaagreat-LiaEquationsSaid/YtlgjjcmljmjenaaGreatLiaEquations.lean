/- At every input the call answers true and leaves its arguments as they were; no conditions. -/
import Derived.Test.YtlgjjcmljmjenaaGreatWd
import Derived.Test.YtlgjjcmljmjenaaGreatQa
import Derived.Test.YtlgjjcmljmjenaaGreatSb
set_option linter.unusedSimpArgs false
set_option linter.unusedVariables false
set_option maxRecDepth 100000
set_option maxHeartbeats 32000000
namespace Go.Proofs.YtlgjjcmljmjenaaGreat
open Go Go.Abs Go.Proofs.Tryz
theorem zw2:(List.range 19).all (fun i=>(List.range 19).all fun j=>(List.range 19).any fun u=>(List.range 19).any fun v=>decide (((i:Int)-9)*((u:Int)-9)+((j:Int)-9)*((v:Int)-9)=(Int.gcd ((i:Int)-9) ((j:Int)-9):Int)))=true:=by decide +kernel
theorem bez{x y:Int}(hx : -9<=x/\x<=9)(hy : -9<=y/\y<=9):∃ u v:Int,x*u+y*v=(Int.gcd x y:Int):=by
 have h1:=wac.1 zw2 (x+9).toNat (wav.2 (by omega));have h2:=wac.1 h1 (y+9).toNat (wav.2 (by omega));obtain⟨u,_,h3⟩:=wbm.1 h2;obtain⟨v,_,h4⟩:=wbm.1 h3;have h5:=of_decide_eq_true h4;rw[show(((x+9).toNat:Nat):Int)-9=x by omega,show(((y+9).toNat:Nat):Int)-9=y by omega]at h5;exact⟨_,_,h5⟩
theorem zw3{x y c:Int}(hx : -9<=x/\x<=9)(hy : -9<=y/\y<=9):(∃ p q:Int,x*p+y*q=c)↔Int.fmod c (Int.gcd x y:Int)=0:=by
 constructor
 .rintro⟨p,q,h⟩
  refine Int.fmod_eq_zero_of_dvd ?_;rw[<-h];exact Int.dvd_add (Int.dvd_mul_of_dvd_left (wdP ..)) (Int.dvd_mul_of_dvd_left (Int.gcd_dvd_right ..))
 .intro h
  obtain⟨u,v,hb⟩:=bez hx hy;have e:=Int.mul_fdiv_add_fmod c (Int.gcd x y:Int);rw[h,wa7]at e;refine⟨u*Int.fdiv c (Int.gcd x y:Int),v*Int.fdiv c (Int.gcd x y:Int),?_⟩;rw[<-wbI,<-wbI,<-wcP,hb];exact e
theorem zlM{a m:Int}(hm:0<m) : -m<Int.tmod a m/\Int.tmod a m<m:=⟨Int.lt_tmod_of_pos a hm,Int.tmod_lt_of_pos a hm⟩
theorem zrJ(hD:zdh)(a:Int)(a1 : -128<=a)(a2:a<128)(b:Int)(b1 : -128<=b)(b2:b<128)(c:Int)(c1 : -32768<=c)(c2:c<32768):Q7 prog 6 [tI .i8 a,tI .i8 b,tI .i16 c] (tB true):=by
 have hk:=zhk hD;obtain⟨x,hx⟩:∃ x,Int.tmod a 10=x:=⟨_,rfl⟩
 obtain⟨y,hy⟩:∃ y,Int.tmod b 10=y:=⟨_,rfl⟩
 obtain⟨d,hd⟩:∃ d,Int.tmod c 100=d:=⟨_,rfl⟩
 have bx : -10<x/\x<10:=hx▸zlM (by decide);have bY : -10<y/\y<10:=hy▸zlM (by decide);have bd : -100<d/\d<100:=hd▸zlM (by decide);obtain⟨nd,JL⟩:∃ nd,nd = -d:=⟨_,rfl⟩
 have k1:IntKind.wrap .i8 x=x:=by unfold IntKind.wrap;simp[IntKind.signed,IntKind.bits];omega
 have k2:IntKind.wrap .i8 y=y:=by unfold IntKind.wrap;simp[IntKind.signed,IntKind.bits];omega
 have k3:IntKind.wrap .i16 d=d:=by unfold IntKind.wrap;simp[IntKind.signed,IntKind.bits];omega
 have e1:IntKind.wrap .i64 x=x:=Q4 (by omega) (by omega);have e2:IntKind.wrap .i64 y=y:=Q4 (by omega) (by omega);have e3:IntKind.wrap .i64 d=d:=Q4 (by omega) (by omega);have e4:IntKind.wrap .i64 (0-d)=nd:=by rw[Q4 (by omega) (by omega)];omega
 have s1:=zfc (a:=x) (b:=y) (k:=nd) (by omega) (by omega) (by omega);have v1:=zfr (a:=x) (b:=y) (k:=nd) (by omega) (by omega) (by omega);have t1:=zfq x y nd;have YU:=zw3 (x:=x) (y:=y) (c:=d) (by omega) (by omega);generalize foJ nd (fun j=>[x,y].getD j 0) 0 2=F at *
 have bo:=zyc F (n:=2) (by decide) v1;have v2:=v1.neg1;have t2:∀ p,atF (scF F (-1)) p = -(atF F p):=fun p=>by rw[zch];omega
 generalize scF F (-1)=G at *
 have hm:∀ f∈[F,G],Fv 2 1 1 f:=Qs.2 ⟨v1,Qs.2 ⟨v2,fun x hx=>by cases hx⟩⟩;obtain⟨o,Va,Ux⟩:=zfx [F,G] (n:=2) (by decide) (by simp) hm;have o1:=zbt x (by omega) (by omega);have o2:=zbt y (by omega) (by omega);have lx:lN x<=1:=ZQ (by omega);have ly:lN y<=1:=ZQ (by omega);have ld:lN d<=1:=ZQ (by omega);have o3:=zp4 x y (by omega) (by omega);have o4:=zbt d (by omega) (by omega);have lg:=zjN x y;have o5:=zs8 d (Int.gcd x y:Int) (by omega) (by omega);have lr:lN (Int.fmod d (Int.gcd x y:Int))<=100:=by
  by_cases c:(Int.gcd x y:Int)=0
  .rw[c,wdo];omega
  .have h1:=wdh d (b:=(Int.gcd x y:Int)) (by omega)
   have h2:=wdi d (b:=(Int.gcd x y:Int)) (by omega);have h3:=zeI (x:=Int.fmod d (Int.gcd x y:Int)) (y:=(Int.gcd x y:Int)) (by omega);omega
 have o6:=ziU (Int.fmod d (Int.gcd x y:Int)) (by omega);generalize (Int.gcd x y:Int)=g at *
 generalize Int.fdiv d g=q at *
 generalize Int.fmod d g=r at *
 have VO:∀ p,Sat [F,G] p↔x*p 0+y*p 1=d:=fun p=>by
  rw[zdN,t2,t1];omega
 cases o with
 |some p =>
  have hr:r=0:=YU.1 ⟨p 0,p 1,(VO p).1 Va.1⟩;have oa:=zbT (zmE [F,G] (n:=2) (by decide) (by simp) hm p Va.2) Va.1;have o6:Q7 prog 24 [eI r] (tI .i64 0):=by rw[hr]at o6 ⊢;exact o6
  have Ux:Q7 prog 13 [.one (eL cF [F,G]),tI .i64 2] (.tup [.one (eL cJ (fnG 2 p)),tB true,tI .i64 0]):=Ux;generalize fnG 2 p=X at *
  clear Va hm v1 v2 t1 t2 VO YU lx ly ld lg lr hr;refine QH QB call6 func6 rfl ntmps6 results6 (by simp) (by decide) ?_;simp only[go_sem];((repeat(refine Q3 0 rfl ?_;simp only[go_sem,hx,hy,hd,k1,k2,k3,e1,e2,e3,e4]));refine Q2 (hk) rfl ?_;simp only[go_sem,hx,hy,hd,e1,e2,e3,e4];(repeat(refine Q3 0 rfl ?_;simp only[go_sem,hx,hy,hd,k1,k2,k3,e1,e2,e3,e4]));refine Q2 (s1) rfl ?_;simp only[go_sem];(repeat(refine Q3 0 rfl ?_;simp only[go_sem,hx,hy,hd,k1,k2,k3,e1,e2,e3,e4]));refine Q2 (bo) rfl ?_;simp only[go_sem];(repeat(refine Q3 0 rfl ?_;simp only[go_sem,hx,hy,hd,k1,k2,k3,e1,e2,e3,e4]));refine Q2 (Ux) rfl ?_;simp only[go_sem];(repeat(refine Q3 0 rfl ?_;simp only[go_sem,hx,hy,hd,k1,k2,k3,e1,e2,e3,e4]));refine Q2 (o1) rfl ?_;simp only[go_sem];(repeat(refine Q3 0 rfl ?_;simp only[go_sem,hx,hy,hd,k1,k2,k3,e1,e2,e3,e4]));refine Q2 (o2) rfl ?_;simp only[go_sem];(repeat(refine Q3 0 rfl ?_;simp only[go_sem,hx,hy,hd,k1,k2,k3,e1,e2,e3,e4]));refine Q2 (o3) rfl ?_;simp only[go_sem];(repeat(refine Q3 0 rfl ?_;simp only[go_sem,hd,e3]));refine Q2 (o4) rfl ?_;simp only[go_sem];(repeat(refine Q3 0 rfl ?_;simp only[go_sem,hx,hy,hd,k1,k2,k3,e1,e2,e3,e4]));refine Q2 (o5) rfl ?_;simp only[go_sem];(repeat(refine Q3 0 rfl ?_;simp only[go_sem,hx,hy,hd,k1,k2,k3,e1,e2,e3,e4]));refine Q2 (o6) rfl ?_;simp only[go_sem,hd,e3,e4];(repeat(refine Q3 0 rfl ?_;simp only[go_sem,hx,hy,hd,k1,k2,k3,e1,e2,e3,e4]));refine Q2 (s1) rfl ?_;simp only[go_sem];(repeat(refine Q3 0 rfl ?_;simp only[go_sem,hx,hy,hd,k1,k2,k3,e1,e2,e3,e4]));refine Q2 (bo) rfl ?_;simp only[go_sem];(repeat(refine Q3 0 rfl ?_;simp only[go_sem,hx,hy,hd,k1,k2,k3,e1,e2,e3,e4]));refine Q2 (oa) rfl ?_;simp only[go_sem];(repeat(refine Q3 0 rfl ?_;simp only[go_sem,hx,hy,hd,k1,k2,k3,e1,e2,e3,e4])))
 |none =>
  have hr:r≠0:=fun h=>by
   obtain⟨p,q,h2⟩:=YU.2 h;exact Va (fun j=>if j=0 then p else q) ((VO _).2 h2)
  have YR:(r.sign=0)=False:=Ql fun h=>hr (wbR.1 h)
  have Ux:Q7 prog 13 [.one (eL cF [F,G]),tI .i64 2] (.tup [.one (.seq (some true) []),tB false,tI .i64 0]):=Ux;clear Va hm v1 v2 t1 t2 VO YU lx ly ld lg lr hr;refine QH QB call6 func6 rfl ntmps6 results6 (by simp) (by decide) ?_;simp only[go_sem];((repeat(refine Q3 0 rfl ?_;simp only[go_sem,hx,hy,hd,k1,k2,k3,e1,e2,e3,e4,YR]));refine Q2 (hk) rfl ?_;simp only[go_sem,hx,hy,hd,e1,e2,e3,e4];(repeat(refine Q3 0 rfl ?_;simp only[go_sem,hx,hy,hd,k1,k2,k3,e1,e2,e3,e4,YR]));refine Q2 (s1) rfl ?_;simp only[go_sem];(repeat(refine Q3 0 rfl ?_;simp only[go_sem,hx,hy,hd,k1,k2,k3,e1,e2,e3,e4,YR]));refine Q2 (bo) rfl ?_;simp only[go_sem];(repeat(refine Q3 0 rfl ?_;simp only[go_sem,hx,hy,hd,k1,k2,k3,e1,e2,e3,e4,YR]));refine Q2 (Ux) rfl ?_;simp only[go_sem];(repeat(refine Q3 0 rfl ?_;simp only[go_sem,hx,hy,hd,k1,k2,k3,e1,e2,e3,e4,YR]));refine Q2 (o1) rfl ?_;simp only[go_sem];(repeat(refine Q3 0 rfl ?_;simp only[go_sem,hx,hy,hd,k1,k2,k3,e1,e2,e3,e4,YR]));refine Q2 (o2) rfl ?_;simp only[go_sem];(repeat(refine Q3 0 rfl ?_;simp only[go_sem,hx,hy,hd,k1,k2,k3,e1,e2,e3,e4,YR]));refine Q2 (o3) rfl ?_;simp only[go_sem];(repeat(refine Q3 0 rfl ?_;simp only[go_sem,hd,e3]));refine Q2 (o4) rfl ?_;simp only[go_sem];(repeat(refine Q3 0 rfl ?_;simp only[go_sem,hx,hy,hd,k1,k2,k3,e1,e2,e3,e4,YR]));refine Q2 (o5) rfl ?_;simp only[go_sem];(repeat(refine Q3 0 rfl ?_;simp only[go_sem,hx,hy,hd,k1,k2,k3,e1,e2,e3,e4,YR]));refine Q2 (o6) rfl ?_;simp only[go_sem,YR];(repeat(refine Q3 0 rfl ?_;simp only[go_sem,hx,hy,hd,k1,k2,k3,e1,e2,e3,e4,YR])))
end Go.Proofs.YtlgjjcmljmjenaaGreat
namespace Go.Proofs.YtlgjjcmljmjenaaGreat
open Go Go.Abs Go.Proofs.Tryz Go.ChangeShapes Go.WideShapes Go.ChangeAt Go.RowKit
theorem zrz(os:Os)(started:os.Started)(H:Type)(enc:TypeId×Value->H) :
  ReturnsInHanded {} Tryz.checked os 6 .any (Rows.liaEquationsSpec.pre6 enc prog Tryz.f6 Rows.liaEquationsRow.domain false) (Rows.liaEquationsSpec.post enc prog Tryz.f6 false true false false):=by
 refine returnsInHanded_of_change (C:=Tryz.checked) Tryz.ownK started (by kernel_rfl) func6
  (ChangeSpec.witness6 (enc:=enc) (C:=Tryz.checked) false ⟨#[],#[.int .i8 0,.int .i8 0,.int .i16 0],[]⟩ 8 (by kernel_rfl) (by kernel_rfl) (by kernel_rfl) (by kernel_rfl)) ?_
 intro W base args ds gs before YJ hW _ _;refine zgR (S:=zd1) (tb:=4) zhg Tryz.laidOut (by intro t ht;revert t;decide +kernel) rfl Tryz.underlying4 rfl (fun ds h=>?_) (fun tvs h=>?_) YJ hW
 .match ds,h with
  |[d0,d1,d2],_=>rfl
 .obtain⟨x0,_,rfl,h0,h⟩:=zbJ h
  obtain⟨x1,_,rfl,h1,h⟩:=zbJ h;obtain⟨x2,_,rfl,h2,h⟩:=zbJ h;obtain rfl:=zhf h;obtain⟨n0,rfl,k0⟩:=zbO Tryz.underlying48 h0;have k0:=zmt k0;obtain⟨n1,rfl,k1⟩:=zbO Tryz.underlying48 h1;have k1:=zmt k1;obtain⟨n2,rfl,k2⟩:=zbO Tryz.underlying49 h2;have k2:=zlZ k2;exact zrJ zhn n0 k0.1 k0.2 n1 k1.1 k1.2 n2 k2.1 k2.2
theorem liaEquations_holds:Rows.LiaEquationsSaid :=
 OpenClaim.holds_of_wide 6 Tryz.f6 rfl rfl rfl rfl rfl rfl rfl ⟨rfl,rfl,rfl,rfl,rfl⟩ rfl rfl rfl rfl rfl (by kernel_rfl) func6 (by kernel_rfl)
  (of_decide_eq_true (by kernel_rfl)) (by unfold Func.isWrapper;first|(rw[Qc (by decide +kernel)];kernel_rfl)|(rw[Qb (by decide +kernel)];exact⟨rfl,rfl⟩))
  (fun os started H enc _=>zrz os started H enc)
end Go.Proofs.YtlgjjcmljmjenaaGreat
