/- At every input the call answers true and leaves its arguments as they were; no conditions. -/
import Derived.Test.YtlgjjcmljmjenaaGreatWd
import Derived.Test.YtlgjjcmljmjenaaGreatQa
import Derived.Test.YtlgjjcmljmjenaaGreatSb
set_option linter.unusedSimpArgs false
set_option linter.unusedVariables false
set_option maxRecDepth 100000
set_option maxHeartbeats 32000000
namespace Go.Proofs.YtlgjjcmljmjenaaGreat
open Go Go.Abs Go.Proofs.Tryz
def ZU(i:Nat):List Fm:=(List.range i).map fun j:Nat=>lF 1 (-(j:Int))
theorem zsF(i:Nat):ZU (i+1)=ZU i++[lF 1 (-(i:Int))]:=by unfold ZU;rw[wcN,waK];rfl
theorem zf2(i:Nat):(ZU i).length=i:=by unfold ZU;rw[Qm,wdY]
theorem zok{i:Nat}(hi:i<=100):∀ f∈ZU i,Fv 1 1 1 f:=fun f hf=>by
 obtain⟨j,hj,rfl⟩:=Qp.1 hf;have:=wav.1 hj;exact zeM (by decide) (by decide) (by omega)
theorem zwl{i:Nat}(hi:i<=60):∃ p:Nat->Int,Q7 prog 13 [.one (eL cF (ZU i)),tI .i64 1] (.tup [.one (eL cJ (fnG 1 p)),tB true,tI .i64 0]):=by
 have hf:=zok (i:=i) (by omega);obtain⟨o,h1,h2⟩:=znS 1 3 (by omega) (ZU i) 1 _ (by decide) (fun f h=>(hf f h).mono (Qd _) (by decide) (by decide)) (by rw[zf2,zjK.1];omega) fun f h=>zoI (hf f h)
 have hw:=zoC (ZU i) (n:=1) (by decide) (by rw[zf2];omega) hf;have h3:=zkA (ZU i) 1 hw h2;cases o with
 |some p=>exact⟨p,h3⟩
 |none =>
  refine Qn (fun f hf=>?_) (h1 fun _=>0);obtain⟨j,hj,rfl⟩:=Qp.1 hf;rw[zcB];omega
theorem zwm:Q7 prog 13 [.one (eL cF (ZU 61)),tI .i64 1] (.tup [.one (.seq (some true) []),tB false,tI .i64 21]):=by
 have hf:=zok (i:=61) (by decide);have hw:=zg9 ((ZU 61).map ZC) 1 (by decide) (by decide) (by rw[Qm,zf2];decide) fun l hm=>by
  obtain⟨f,Nn,rfl⟩:=Qp.1 hm;have hb:=zbC ((hf f Nn).bd (L:=1) (by omega) (Qd _) (Qd _));have KM:(ZC f).1.length<=1:=hb.1;exact⟨by omega,fun m hm=>⟨by have:=(hb.2.1 m hm).2;omega,(hb.2.1 m hm).1⟩,by have:=hb.2.2;omega⟩
 have e:zb2 ((ZU 61).map ZC) 1=21:=by
  unfold zb2;rw[Qc (.inl (by rw[Qm,zf2];decide))]
 rw[e]at hw;have h:=zg2 _ 1 21 (by decide) hw
 rwa[zlD]at h
theorem zxU(k:Int)(k1 : -9223372036854775808<=k)(k2:k<9223372036854775808):∃ (X:TV) (b:Bool),Q7 prog 13 [.one (.seq (some true) []),tI .i64 k] (.tup [X,tB b,tI .i64 (if k<0 then 10 else if 40<k then 21 else 0)]):=by
 have hw:=zg9 [] k k1 k2 (by simp) (fun l hl=>by cases hl);by_cases c1:k<0
 .have e:zb2 [] k=10:=by
   unfold zb2;rw[Qb (by simp;omega),Qc (.inr c1)]
  rw[e]at hw;have h:=zg2 [] k 10 (by decide) hw;rw[Qc c1];exact⟨_,_,h.tw (.cons (.one .weak) (.cons TVW.refl1 .nil))⟩
 .rw[Qb c1]
  by_cases c2:40<k
  .have e:zb2 [] k=21:=by
    unfold zb2;rw[Qc (.inr c2)]
   rw[e]at hw;have h:=zg2 [] k 21 (by decide) hw;rw[Qc c2];exact⟨_,_,h.tw (.cons (.one .weak) (.cons TVW.refl1 .nil))⟩
  .rw[Qb c2]
   have e:zb2 [] k=0:=by
    unfold zb2;rw[Qb (by simp;omega),Qb (by rintro(⟨l,h,_⟩|h)<;>first|cases h|omega)]
   rw[e]at hw;obtain⟨m,rfl⟩:∃ m:Nat,k=m:=⟨k.toNat,by omega⟩
   obtain⟨o,_,ho⟩:=znq (ls:=[]) (n:=m) (C:=1) (K:=1) (B:=0) (by omega) (by decide) (by simp) (fun f hf=>by cases hf) (fun a ha=>by cases ha) (fun i j hj hi=>Qn hi (by show ¬i<0;omega)) rfl;have h:=zkA [] m hw ho;exact⟨_,_,h.tw (.cons (.one .weak) (.cons TVW.refl1 .nil))⟩
theorem zyU{z:Nat}(hz:z<6):∃ (X:TV) (b:Bool),Q7 prog 13 [.one (.seq (some false) [cF (Zf z)]),tI .i64 3] (.tup [X,tB b,tI .i64 (if z<3 then 0 else 10)]):=by
 by_cases c:z<3
 .rw[Qc c]
  have hv:Fv 3 1 1 (Zf z):=(Fv.var c).mono (Qd _) (Qd _) (by omega);obtain⟨o,_,h⟩:=zfx [Zf z] (n:=3) (by decide) (by simp) (Qs.2 ⟨hv,fun x hx=>by cases hx⟩);exact⟨_,_,h.tw (.cons (.one .weak) (.cons TVW.refl1 .nil))⟩
 .rw[Qb c]
  have hw:=zg9 [ZC (Zf z)] 3 (by decide) (by decide) (by simp) fun l hm=>by
   obtain rfl:=Qr.1 hm;have hb:=zbC ((Fv.var (n:=6) hz).bd (L:=1) (by omega) (Qd _) (by omega));have KM:(ZC (Zf z)).1.length<=6:=hb.1;exact⟨by omega,fun m hm=>⟨by have:=(hb.2.1 m hm).2;omega,(hb.2.1 m hm).1⟩,by have:=hb.2.2;omega⟩
  have e:zb2 [ZC (Zf z)] 3=10:=by
   unfold zb2;rw[Qb (by simp),Qc (.inl ⟨_,Qr.2 rfl,.inr (.inr ⟨(fun h=>by cases h),by show(3:Int)<=(z:Int);omega⟩)⟩)]
  rw[e]at hw;have h:=zg2 _ 3 10 (by decide) hw;exact⟨_,_,h.tw (.cons (.one .weak) (.cons TVW.refl1 .nil))⟩
theorem zth(hD:zdh)(n:Int)(n1:0<=n)(n2:n<256)(k:Int)(k1 : -9223372036854775808<=k)(k2:k<9223372036854775808)(v:Int)(v1:0<=v)(v2:v<256):Q7 prog 5 [tI .u8 n,tI .i64 k,tI .u8 v] (tB true):=by
 have hk:=zhk hD;obtain⟨w,hw,Jz⟩:∃ w:Nat,Int.tmod n 3=(w:Int)/\w<3:=⟨(n%3).toNat,by rw[wcp n1];omega,by omega⟩
 obtain⟨z,hz,Wy⟩:∃ z:Nat,Int.tmod v 6=(z:Int)/\z<6:=⟨(v%6).toNat,by rw[wcp v1];omega,by omega⟩
 obtain⟨N,hN⟩:∃ N,N=59+w:=⟨_,rfl⟩
 have e1:IntKind.wrap .i64 (w:Int)=(w:Int):=Q4 (by omega) (by omega);have e2:IntKind.wrap .i64 (59+(w:Int))=(N:Int):=by rw[Q4 (by omega) (by omega)];omega
 have e3:IntKind.wrap .i64 (z:Int)=(z:Int):=Q4 (by omega) (by omega);obtain⟨X1,b1,s1⟩:=zxU k k1 k2;obtain⟨X2,b2,s2⟩:=zyU Wy;have ov:Q7 prog 18 [tI .i64 (z:Int)] (eF (Zf z)):=by have:=zl8 (z:Int) (by omega) (by omega);rwa[wbB]at this
 obtain⟨E1,WW⟩:∃ E,E=(if k<0 then(10:Int)else if 40<k then 21 else 0):=⟨_,rfl⟩
 rw[<-WW]at s1;obtain⟨E2,Nr⟩:∃ E,E=(if z<3 then(0:Int)else 10):=⟨_,rfl⟩
 rw[<-Nr]at s2;have hM:∃ (X:TV) (bb:Bool) (E:Int),Q7 prog 13 [.one (eL cF (ZU N)),tI .i64 1] (.tup [X,tB bb,tI .i64 E])/\((N=61/\bb=false/\E=21)\/(N<=60/\bb=true/\E=0)):=by
  by_cases c:N=61
  .rw[c];exact⟨_,_,_,zwm,.inl ⟨rfl,rfl,rfl⟩⟩
  .obtain⟨p,hp⟩:=zwl (i:=N) (by omega)
   exact⟨_,_,_,hp,.inr ⟨by omega,rfl,rfl⟩⟩
 obtain⟨X0,bb,E0,s0,XN⟩:=hM;have hK:((k<0)=True/\(40<k)=False/\E1=10)\/((k<0)=False/\(40<k)=True/\E1=21)\/((k<0)=False/\(40<k)=False/\E1=0):=by
  by_cases a:k<0
  .exact .inl ⟨Qh a,Ql (by omega),by rw[WW,Qc a]⟩
  .by_cases b:40<k
   .exact .inr (.inl ⟨Ql a,Qh b,by rw[WW,Qb a,Qc b]⟩)
   .exact .inr (.inr ⟨Ql a,Ql b,by rw[WW,Qb a,Qb b]⟩)
 have hZ:(((z:Int)<3)=True/\E2=0)\/(((z:Int)<3)=False/\E2=10):=by
  by_cases a:z<3
  .exact .inl ⟨Qh (by omega),by rw[Nr,Qc a]⟩
  .exact .inr ⟨Ql (by omega),by rw[Nr,Qb a]⟩
 clear WW Nr;refine QH QB call5 func5 rfl ntmps5 results5 (by simp) (by decide) ?_;simp only[go_sem];refine Q2 hk rfl ?_;simp only[go_sem];refine QJ (fun i:Nat=>if i=N then stL 94 [(0,litI .u8 n),(1,litI .i64 k),(2,litI .u8 v),(7,.one (.t (eL cF (ZU N)))),(8,litI .i64 i)] []
  else stL 94 [(0,litI .u8 n),(1,litI .i64 k),(2,litI .u8 v),(7,zae 1000 3 (ZU i)),(8,litI .i64 i)] (Zb 1000 cF (ZU i))) (fun i=>i<=N) (fun i=>N-i) 0 ?_ (Qk _) ?_
 .rw[Qb (by omega),show ZU 0=[]from rfl]
  (refine Q6 rfl ?_ ?_ ?_ ?_<;>(try simp only[go_sem])<;>(try simp))
 .intro i hi
  by_cases LJ:i=N
  .subst LJ
   have J0:((i:Int)<(i:Int))=False:=Ql (by omega);have Y4:=zf2 i;have Wz:((60:Int)<(i:Int))=True/\bb=false/\E0=21\/((60:Int)<(i:Int))=False/\bb=true/\E0=0:=by
    rcases XN with⟨a,b,c⟩|⟨a,b,c⟩
    .exact .inl ⟨Qh (by omega),b,c⟩
    .exact .inr ⟨Ql (by omega),b,c⟩
   clear XN hi;simp only[Qc];generalize Zf z=V at *
   generalize ZU i=A at *
   rcases Wz with⟨Jb,rfl,rfl⟩|⟨Jb,rfl,rfl⟩<;>rcases hK with⟨ka,kb,rfl⟩|⟨ka,kb,rfl⟩|⟨ka,kb,rfl⟩<;>rcases hZ with⟨za,rfl⟩|⟨za,rfl⟩<;>(
    simp only[go_sem,hw,e1,e2,J0];refine Q2 s0 rfl ?_;simp only[go_sem,Y4,Jb];refine Q2 s1 rfl ?_;simp only[go_sem,ka,kb,hz,e3];refine Q2 ov rfl ?_;simp only[go_sem];refine Q2 s2 rfl ?_;simp only[go_sem,hz,za])
  .simp only[Qb LJ]
   have Y1:((i:Int)<(N:Int))=True:=Qh (by omega);have e4:IntKind.wrap .i64 (0-(i:Int)) = -(i:Int):=by rw[Q4 (by omega) (by omega)];omega
   have XM:IntKind.wrap .i64 ((i:Int)+1)=((i+1:Nat):Int):=by rw[Q4 (by omega) (by omega)];omega
   have f1:=zeA 1 (-(i:Int)) (by decide) (by decide) (by omega);have Y0:=zsF i;have RK:=zf2 i;generalize hF:lF 1 (-(i:Int))=F at *
   generalize LM : -(i:Int)=ni at *
   obtain⟨CM,WA⟩:∃ CM,CM=stL 94 [(0,litI .u8 n),(1,litI .i64 k),(2,litI .u8 v),(7,zae 1000 3 (ZU i++[F])),(8,litI .i64 (i+1:Nat))] (Zb 1000 cF (ZU i++[F])):=⟨_,rfl⟩
   have Y9:Go.Abs.GStep CM (if i+1=N then stL 94 [(0,litI .u8 n),(1,litI .i64 k),(2,litI .u8 v),(7,.one (.t (eL cF (ZU N)))),(8,litI .i64 (i+1:Nat))] []
     else stL 94 [(0,litI .u8 n),(1,litI .i64 k),(2,litI .u8 v),(7,zae 1000 3 (ZU (i+1))),(8,litI .i64 (i+1:Nat))] (Zb 1000 cF (ZU (i+1)))):=by
    by_cases e5:i+1=N
    .rw[Qc e5,WA,<-e5,Y0]
     have hv:QX 1000 3 (ZU i++[F])=Go.Abs.C.vec 1000 3 0 (ZU i++[F]).length:=by cases ZU i<;>rfl
     have hc:∀ o,ZK cF (ZU i++[F]) o=some (Q5 cF (ZU i++[F])):=fun o=>by cases ZU i<;>rfl
     generalize ZU i++[F]=A2 at *
     refine GStep.trans (zbj (b:=1000) (sz:=3) (len:=A2.length) (by simp only[go_sem,hc]<;>rfl) (Yp Z9)) ?_
     (refine Q6 rfl ?_ ?_ ?_ ?_<;>(try simp only[go_sem,hv])<;>(try simp))
    .rw[Qb e5,WA,Y0]
     (refine Q6 rfl ?_ ?_ ?_ ?_<;>(try simp only[go_sem])<;>(try simp))
   generalize ZU i=A at *
   simp only[go_sem,hw,e1,e2,Y1,e4];refine Q2 f1 rfl ?_;simp only[go_sem];refine ZF (sz:=3) (bytes:=56) (by simp only[go_sem,QW]<;>decide) Z9 A [F] (b:=1000) (by simp only[go_sem]<;>rfl) (by simp only[go_sem]<;>rfl) (by simp only[go_sem]<;>rfl) rfl (by simp) (by simp only[Qe,Qi]at *;omega) (by decide) ?_;simp only[go_sem];refine⟨i+1,by omega,(by show N-(i+1)<N-i;omega),GStep.trans (σ₁:=CM) ?_ Y9⟩;rw[WA]
   (refine Q6 rfl ?_ ?_ ?_ ?_<;>(try simp only[go_sem,XM])<;>(try simp))
end Go.Proofs.YtlgjjcmljmjenaaGreat
namespace Go.Proofs.YtlgjjcmljmjenaaGreat
open Go Go.Abs Go.Proofs.Tryz Go.ChangeShapes Go.WideShapes Go.ChangeAt Go.RowKit
theorem zrI(os:Os)(started:os.Started)(H:Type)(enc:TypeId×Value->H) :
  ReturnsInHanded {} Tryz.checked os 5 .any (Rows.liaManySpec.pre6 enc prog Tryz.f5 Rows.liaManyRow.domain false) (Rows.liaManySpec.post enc prog Tryz.f5 false true false false):=by
 refine returnsInHanded_of_change (C:=Tryz.checked) Tryz.ownK started (by kernel_rfl) func5
  (ChangeSpec.witness6 (enc:=enc) (C:=Tryz.checked) false ⟨#[],#[.int .u8 0,.int .i64 0,.int .u8 0],[]⟩ 8 (by kernel_rfl) (by kernel_rfl) (by kernel_rfl) (by kernel_rfl)) ?_
 intro W base args ds gs before YJ hW _ _;refine zgR (S:=zd1) (tb:=4) zhg Tryz.laidOut (by intro t ht;revert t;decide +kernel) rfl Tryz.underlying4 rfl (fun ds h=>?_) (fun tvs h=>?_) YJ hW
 .match ds,h with
  |[d0,d1,d2],_=>rfl
 .obtain⟨x0,_,rfl,h0,h⟩:=zbJ h
  obtain⟨x1,_,rfl,h1,h⟩:=zbJ h;obtain⟨x2,_,rfl,h2,h⟩:=zbJ h;obtain rfl:=zhf h;obtain⟨n0,rfl,k0⟩:=zbO Tryz.underlying5 h0;have k0:=zfL k0;obtain⟨n1,rfl,k1⟩:=zbO Tryz.underlying3 h1;have k1:=zyk k1;obtain⟨n2,rfl,k2⟩:=zbO Tryz.underlying5 h2;have k2:=zfL k2;exact zth zhn n0 k0.1 k0.2 n1 k1.1 k1.2 n2 k2.1 k2.2
theorem liaMany_holds:Rows.LiaManySaid :=
 OpenClaim.holds_of_wide 5 Tryz.f5 rfl rfl rfl rfl rfl rfl rfl ⟨rfl,rfl,rfl,rfl,rfl⟩ rfl rfl rfl rfl rfl (by kernel_rfl) func5 (by kernel_rfl)
  (of_decide_eq_true (by kernel_rfl)) (by unfold Func.isWrapper;first|(rw[Qc (by decide +kernel)];kernel_rfl)|(rw[Qb (by decide +kernel)];exact⟨rfl,rfl⟩))
  (fun os started H enc _=>zrI os started H enc)
end Go.Proofs.YtlgjjcmljmjenaaGreat
