/- At every input the call answers true and leaves its arguments as they were; no conditions. -/
import Derived.Test.YtlgjjcmljmjenaaGreatAk
import Derived.Test.YtlgjjcmljmjenaaGreatWd
import Derived.Test.YtlgjjcmljmjenaaGreatQa
import Derived.Test.YtlgjjcmljmjenaaGreatSb
set_option linter.unusedSimpArgs false
set_option linter.unusedVariables false
set_option maxRecDepth 100000
set_option maxHeartbeats 32000000
namespace Go.Abs
theorem QK.oneX{P:Program}{ops:Array Oper}{q:St->Prop}{fuel:Nat}{listed:Array Bool}{σ:St}(i:Nat){d:Option Nat}{op:Op}{ty:TypeId}{pos:String}{af:Array Edge}(hr:Region.ready .any ops listed=[i])(ho:ops[i]? = some ⟨d,op,ty,pos,af,none⟩)
  (hd:zaP σ.n d=true) (h:OpA P 2 ⟨d,op,ty,pos,af,none⟩ σ fun v σ'=>QK P ops q fuel (listed.setIfInBounds i true) (σ'.putO d v)):QK P ops q (fuel+1) listed σ:=by
 intro ρ ok a w hs Q' hp hn;refine wpAny_all hr (by simp) fun j hj=>?_
 obtain rfl:=Qr.1 hj;unfold wpOp;simp only[ho];rw[Qc (by unfold Region.wanted;rfl)];refine .inl (Oper.wp_mono ?_ (zsq hs hd (.inr h)));rintro a' w' ⟨x,v,τ,ρ',ok',hk,rfl,hx,Wi,hg,FU⟩;exact hk ρ' ok' _ w' (Wi.putA (by rw[FU];exact hd) hx) Q' hp (fun σ'' ρ'' ok'' a'' w'' q1 s1 g1=>hn σ'' ρ'' ok'' a'' w'' q1 s1 (hg.trans g1))
end Go.Abs
namespace Go.Proofs.YtlgjjcmljmjenaaGreat
open Go Go.Abs Go.Proofs.Tryz
theorem zw8(f:Fm){n:Nat}(hn:n<=4)(hf:Fv n 1 1 f):zgK prog 19 [eF f] 3 2 (Q5 cF [f,scF f (-1)]):=by
 have o1:Q7 prog 22 [tI .i64 (-1)] (eI (-1)):=zbt (-1) (by decide) (by decide);have l1:lN (-1)<=1:=ZQ (by decide);have o2:=zio f (-1) (N:=4) (L:=1) (by decide) (by decide) hf.wf ((hf.bd (by omega) (Qd _) (Qd _)).mono (by omega) (Qd _)) (by omega);refine zii (b:=7) QB call19 func19 rfl ntmps19 results19 (by simp) (by decide) ?_ ?_
 .exact zfY
 generalize scF f (-1)=g at *
 simp only[go_sem];refine zde 6 rfl ?_;refine QK.pre [] 0 [0,1,2,3] [4,5] #[true,true,true,true,false,false] 2 (by decide +kernel) (by decide +kernel) (by decide +kernel) (by decide +kernel) (by decide +kernel) rfl rfl (by decide +kernel) rfl ?_;simp only[Zq,wbh,wbi,waZ,wa6,wa0];simp only[go_sem];refine Q2 o1 rfl ?_;simp only[go_sem];refine Q2 o2 rfl ?_;simp only[go_sem];refine QK.oneX 4 (by decide +kernel) rfl (by simp only[go_sem]) ?_;refine ziM 7 3 [.t (.seq (some true) []),.t (.lit (.bool false)),.t (.seq (some true) [])] (cs:=Q5 cF [f,g]) rfl (Qd _) (by simp only[go_sem]<;>decide) (by simp only[go_sem]<;>rfl) (by simp only[go_sem]) (by decide) ?_;simp only[go_sem];refine QK.one' 5 (by decide +kernel) rfl (by simp only[go_sem]) ?_;simp only[go_sem];refine QK.done (by decide +kernel) ?_;simp only[go_sem];exact⟨[],(wak _).symm⟩
theorem zqS{x y n:Int}{b:Bool}(hx:2<=x/\x<=7)(hy:2<=y/\y<=7)(hn : -100<=n/\n<=100)(hb:b=true↔∃ p q:Int,0<=p/\0<=q/\x*p+y*q=n):Q7 prog 28 [tI .i64 x,tI .i64 y,tI .i64 n] (tB b):=by
 obtain⟨nd,JL⟩:∃ nd,nd = -n:=⟨_,rfl⟩
 have e4:IntKind.wrap .i64 (0-n)=nd:=by rw[Q4 (by omega) (by omega)];omega
 have s1:=zfc (a:=x) (b:=y) (k:=nd) (by omega) (by omega) (by omega);have v1:=zfr (a:=x) (b:=y) (k:=nd) (by omega) (by omega) (by omega);have t1:=zfq x y nd;have s3:=zfc (a:=-1) (b:=0) (k:=0) (by omega) (by omega) (by omega);have v3:=zfr (a:=-1) (b:=0) (k:=0) (by omega) (by omega) (by omega);have t3:=zfq (-1) 0 0;have s4:=zfc (a:=0) (b:=-1) (k:=0) (by omega) (by omega) (by omega);have v4:=zfr (a:=0) (b:=-1) (k:=0) (by omega) (by omega) (by omega);have t4:=zfq 0 (-1) 0;generalize foJ nd (fun j=>[x,y].getD j 0) 0 2=F at *
 generalize foJ 0 (fun j=>[-1,0].getD j 0) 0 2=F1 at *
 generalize foJ 0 (fun j=>[0,-1].getD j 0) 0 2=F2 at *
 have bo:=zw8 F (n:=2) (by decide) v1;have v2:=v1.neg1;have t2:∀ p,atF (scF F (-1)) p = -(atF F p):=fun p=>by rw[zch];omega
 generalize scF F (-1)=G at *
 have hm:∀ f∈[F,G,F1,F2],Fv 2 1 1 f:=Qs.2 ⟨v1,Qs.2 ⟨v2,Qs.2 ⟨v3,Qs.2 ⟨v4,fun x hx=>by cases hx⟩⟩⟩⟩;obtain⟨o,Va,Ux⟩:=zfx [F,G,F1,F2] (n:=2) (by decide) (by simp) hm;have VO:∀ p,Sat [F,G,F1,F2] p↔0<=p 0/\0<=p 1/\x*p 0+y*p 1=n:=fun p=>by
  rw[Sat.cons,Sat.cons,zdN,t2,t1,t3,t4];omega
 have Gz:o.isSome=b:=by
  cases o with
  |some p=>exact(hb.2 ⟨p 0,p 1,(VO p).1 Va.1⟩).symm
  |none =>
   cases b with
   |false=>rfl
   |true =>
    obtain⟨p,q,h⟩:=hb.1 rfl;exact Qn ((VO fun j=>if j=0 then p else q).2 h) (Va _)
 have G7:∀ p,o=some p->Q7 prog 15 [.one (eL cF [F,G,F1,F2]),.one (eL cJ (fnG 2 p))] (tB true):=fun p e=>by
  subst e;exact zbT (zmE [F,G,F1,F2] (n:=2) (by decide) (by simp) hm p Va.2) Va.1
 clear Va hm v1 v2 v3 v4 t1 t2 t3 t4 VO hb JL;refine zrZ [false,true] QB call28 func28 rfl ntmps28 results28 (by simp) (by decide) ?_;simp only[go_sem,e4];refine Q2 s1 rfl ?_;simp only[go_sem];refine ze7 900001 (.inr rfl) bo (by first|rfl|(simp only[go_sem]<;>rfl)) (by simp only[go_sem]) (by decide) ?_;simp only[go_sem];refine Q2 s3 rfl ?_;simp only[go_sem];refine Q2 s4 rfl ?_;simp only[go_sem];refine zar (Qd _) (sz:=3) (bytes:=56) (by simp only[go_sem,QW]<;>decide) Z9 [F,G] [F1,F2] (b:=900001) (by simp only[go_sem]<;>rfl) rfl (by simp only[go_sem]<;>rfl) (by simp only[go_sem]<;>rfl) rfl (by simp) (by decide) ?_;simp only[go_sem];refine pau (stL 40 [(7,.one (.t (eL cF [F,G,F1,F2])))] []) (GStep.trans (zbj (b:=900001) (sz:=3) (len:=4) (by simp only[go_sem]<;>rfl) (Yp (xs:=[F,G,F1,F2]) Z9)) ?_) ?_
 ·(refine Q6 rfl ?_ ?_ ?_ ?_<;>(try simp only[go_sem,QA])<;>(try simp))
 subst Gz;cases o with
 |some p =>
  have G7:=G7 p rfl;have Ux:Q7 prog 13 [.one (eL cF [F,G,F1,F2]),tI .i64 2] (.tup [.one (eL cJ (fnG 2 p)),tB true,tI .i64 0]):=Ux;generalize fnG 2 p=X at *
  simp only[go_sem];((repeat(refine Q3 0 rfl ?_;simp only[go_sem]));refine Q2 (Ux) rfl ?_;simp only[go_sem];(repeat(refine Q3 0 rfl ?_;simp only[go_sem]));refine Q2 (G7) rfl ?_;simp only[go_sem];(repeat(refine Q3 0 rfl ?_;simp only[go_sem])))
 |none =>
  have Ux:Q7 prog 13 [.one (eL cF [F,G,F1,F2]),tI .i64 2] (.tup [.one (.seq (some true) []),tB false,tI .i64 0]):=Ux;simp only[go_sem];((repeat(refine Q3 0 rfl ?_;simp only[go_sem]));refine Q2 (Ux) rfl ?_;simp only[go_sem];(repeat(refine Q3 0 rfl ?_;simp only[go_sem])))
theorem zse:(List.range 6).all (fun i=>(List.range 6).all fun j=>!decide (Nat.gcd (i+2) (j+2)=1)||(List.range 15).all fun u=>(List.range 15).all fun v=>!decide ((i+2)*u+(j+2)*v+(i+2)+(j+2)=(i+2)*(j+2)))=true:=by decide +kernel
theorem zrV:(List.range 6).all (fun i=>(List.range 6).all fun j=>!decide (Nat.gcd (i+2) (j+2)=1)||(List.range 20).all fun m=>(List.range 7).any fun u=>(List.range 30).any fun v=>decide ((i+2)*u+(j+2)*v+(i+2)+(j+2)=(i+2)*(j+2)+1+m))=true:=by decide +kernel
theorem zwa{x y p q:Nat}(hx:2<=x/\x<=7)(hy:2<=y/\y<=7)(hg:Nat.gcd x y=1)(h:x*p+y*q+x+y=x*y):False:=by
 obtain⟨i,rfl⟩:∃ i,x=i+2:=⟨x-2,by omega⟩
 obtain⟨j,rfl⟩:∃ j,y=j+2:=⟨y-2,by omega⟩
 have h1:=wac.1 (wac.1 zse i (wav.2 (by omega))) j (wav.2 (by omega));rw[waC hg]at h1;have hb:(i+2)*(j+2)<=7*7:=wax (by omega) (by omega);have hp:2*p<=(i+2)*p:=wag _ (by omega);have hq:2*q<=(j+2)*q:=wag _ (by omega);by_cases c:p<15/\q<15
 .have h2:=wac.1 (wac.1 h1 p (wav.2 c.1)) q (wav.2 c.2)
  rw[waC h]at h2;cases h2
 .have h3:(i+2)*p<=45/\(j+2)*q<=45:=by omega
  have h4:p<23/\q<23:=by omega
  have h5:15<=p\/15<=q:=by omega
  have hi:i<6:=by omega
  have hj:j<6:=by omega
  rcases h5 with h5|h5
  .have h6:(i+2)*15<=(i+2)*p:=waq _ h5
   have h7:(i+2)*(j+2)<=(i+2)*7:=waq _ (by omega);omega
  .have h6:(j+2)*15<=(j+2)*q:=waq _ h5
   have h7:(i+2)*(j+2)<=7*(j+2):=wag _ (by omega);omega
theorem zuq{x y m:Nat}(hx:2<=x/\x<=7)(hy:2<=y/\y<=7)(hg:Nat.gcd x y=1)(hm:m<20):∃ p q,x*p+y*q+x+y=x*y+1+m:=by
 obtain⟨i,rfl⟩:∃ i,x=i+2:=⟨x-2,by omega⟩
 obtain⟨j,rfl⟩:∃ j,y=j+2:=⟨y-2,by omega⟩
 have h1:=wac.1 (wac.1 zrV i (wav.2 (by omega))) j (wav.2 (by omega));rw[waC hg]at h1;have h2:=wac.1 h1 m (wav.2 hm);obtain⟨u,_,h3⟩:=wbm.1 h2;obtain⟨v,_,h4⟩:=wbm.1 h3;exact⟨u,v,of_decide_eq_true h4⟩
theorem zsx(hD:zdh)(a:Int)(a1:0<=a)(a2:a<256)(b:Int)(b1:0<=b)(b2:b<256)(c:Int)(c1:0<=c)(c2:c<256):Q7 prog 9 [tI .u8 a,tI .u8 b,tI .u8 c] (tB true):=by
 have hk:=zhk hD;obtain⟨w,hw,XM,Jz⟩:∃ w:Int,Int.tmod a 6=w/\0<=w/\w<6:=⟨a%6,wcp a1,by omega,by omega⟩
 obtain⟨v,hv,Vt,V4⟩:∃ v:Int,Int.tmod b 6=v/\0<=v/\v<6:=⟨b%6,wcp b1,by omega,by omega⟩
 obtain⟨m,hm,XK,Nn⟩:∃ m:Int,Int.tmod c 20=m/\0<=m/\m<20:=⟨c%20,wcp c1,by omega,by omega⟩
 obtain⟨x,hx⟩:∃ x:Nat,(x:Int)=w+2:=⟨(w+2).toNat,by omega⟩
 obtain⟨y,hy⟩:∃ y:Nat,(y:Int)=v+2:=⟨(v+2).toNat,by omega⟩
 obtain⟨M,hM⟩:∃ M,M=x*y:=⟨_,rfl⟩
 have E6:M<=7*7:=by rw[hM];exact wax (by omega) (by omega)
 have e1:IntKind.wrap .i64 w=w:=Q4 (by omega) (by omega);have e2:IntKind.wrap .i64 (w+2)=(x:Int):=by rw[hx];exact Q4 (by omega) (by omega)
 have e3:IntKind.wrap .i64 v=v:=Q4 (by omega) (by omega);have e4:IntKind.wrap .i64 (v+2)=(y:Int):=by rw[hy];exact Q4 (by omega) (by omega)
 have o1:=zbt (x:Int) (by omega) (by omega);have o2:=zbt (y:Int) (by omega) (by omega);have lx:lN (x:Int)<=1:=ZQ (by omega);have ly:lN (y:Int)<=1:=ZQ (by omega);have o3:=zp4 (x:Int) (y:Int) (by omega) (by omega);have lg:=zjN (x:Int) (y:Int);have eg:Int.gcd (x:Int) (y:Int)=Nat.gcd x y:=rfl;rw[eg]at o3 lg;have o4:Q7 prog 22 [tI .i64 1] (eI 1):=zbt 1 (by decide) (by decide);have l1:lN 1<=1:=ZQ (by decide);have o5:=znt ((Nat.gcd x y:Nat):Int) 1 (by omega) (by omega);by_cases hg:Nat.gcd x y=1
 .have o5:=zbT o5 (by rw[hg];rfl)
  obtain⟨n1,GC⟩:∃ n1:Int,n1=(M:Int)-x:=⟨_,rfl⟩
  obtain⟨n2,FM⟩:∃ n2:Int,n2=n1-y:=⟨_,rfl⟩
  obtain⟨n3,Gj⟩:∃ n3:Int,n3=n2+1:=⟨_,rfl⟩
  obtain⟨n4,LE⟩:∃ n4:Int,n4=n3+m:=⟨_,rfl⟩
  have e5:IntKind.wrap .i64 ((x:Int)*(y:Int))=(M:Int):=by rw[hM,wbo];rw[<-wbo,<-hM];exact Q4 (by omega) (by omega)
  have e6:IntKind.wrap .i64 ((M:Int)-x)=n1:=by rw[GC];exact Q4 (by omega) (by omega)
  have e7:IntKind.wrap .i64 (n1-y)=n2:=by rw[FM];exact Q4 (by omega) (by omega)
  have e8:IntKind.wrap .i64 (n2+1)=n3:=by rw[Gj];exact Q4 (by omega) (by omega)
  have e9:IntKind.wrap .i64 m=m:=Q4 (by omega) (by omega);have e10:IntKind.wrap .i64 (n3+m)=n4:=by rw[LE];exact Q4 (by omega) (by omega)
  have p1:Q7 prog 28 [tI .i64 x,tI .i64 y,tI .i64 n2] (tB false):=zqS (by omega) (by omega) (by omega) ⟨fun h=>(by cases h),fun⟨p,q,hp,hq,h⟩=>by
   obtain⟨p,rfl⟩:∃ z:Nat,p=z:=⟨p.toNat,by omega⟩
   obtain⟨q,rfl⟩:∃ z:Nat,q=z:=⟨q.toNat,by omega⟩
   refine(zwa (x:=x) (y:=y) (p:=p) (q:=q) (by omega) (by omega) hg ?_).elim;rw[<-hM];have h1:((x*p:Nat):Int)=(x:Int)*p:=wbo ..;have h2:((y*q:Nat):Int)=(y:Int)*q:=wbo ..;generalize x*p=z1 at *
   generalize y*q=z2 at *
   omega⟩
  have p2:Q7 prog 28 [tI .i64 x,tI .i64 y,tI .i64 n4] (tB true):=zqS (by omega) (by omega) (by omega) ⟨fun _=>by
   obtain⟨p,q,h⟩:=zuq (x:=x) (y:=y) (m:=m.toNat) (by omega) (by omega) hg (by omega);refine⟨p,q,Int.natCast_nonneg _,Int.natCast_nonneg _,?_⟩;rw[<-hM]at h;have h1:((x*p:Nat):Int)=(x:Int)*p:=wbo ..;have h2:((y*q:Nat):Int)=(y:Int)*q:=wbo ..;rw[<-h1,<-h2];generalize x*p=z1 at *
   generalize y*q=z2 at *
   omega,fun _=>rfl⟩
  clear hM E6 GC FM Gj LE lg lx ly hg;generalize Nat.gcd x y=g at *
  generalize (x:Int)=X at *
  generalize (y:Int)=Y at *
  generalize (M:Int)=N at *
  refine QH QB call9 func9 rfl ntmps9 results9 (by simp) (by decide) ?_;simp only[go_sem,hw,hv,hm,e1,e2,e3,e4,e5,e6,e7,e8,e9,e10];((repeat(refine Q3 0 rfl ?_;simp only[go_sem,hw,hv,hm,e1,e2,e3,e4,e5,e6,e7,e8,e9,e10]));refine Q2 (hk) rfl ?_;simp only[go_sem,hw,hv,hm,e1,e2,e3,e4,e5,e6,e7,e8,e9,e10];(repeat(refine Q3 0 rfl ?_;simp only[go_sem,hw,hv,hm,e1,e2,e3,e4,e5,e6,e7,e8,e9,e10]));refine Q2 (o1) rfl ?_;simp only[go_sem,hw,hv,hm,e1,e2,e3,e4,e5,e6,e7,e8,e9,e10];(repeat(refine Q3 0 rfl ?_;simp only[go_sem,hw,hv,hm,e1,e2,e3,e4,e5,e6,e7,e8,e9,e10]));refine Q2 (o2) rfl ?_;simp only[go_sem,hw,hv,hm,e1,e2,e3,e4,e5,e6,e7,e8,e9,e10];(repeat(refine Q3 0 rfl ?_;simp only[go_sem,hw,hv,hm,e1,e2,e3,e4,e5,e6,e7,e8,e9,e10]));refine Q2 (o3) rfl ?_;simp only[go_sem,hw,hv,hm,e1,e2,e3,e4,e5,e6,e7,e8,e9,e10];(repeat(refine Q3 0 rfl ?_;simp only[go_sem,hw,hv,hm,e1,e2,e3,e4,e5,e6,e7,e8,e9,e10]));refine Q2 (o4) rfl ?_;simp only[go_sem,hw,hv,hm,e1,e2,e3,e4,e5,e6,e7,e8,e9,e10];(repeat(refine Q3 0 rfl ?_;simp only[go_sem,hw,hv,hm,e1,e2,e3,e4,e5,e6,e7,e8,e9,e10]));refine Q2 (o5) rfl ?_;simp only[go_sem,hw,hv,hm,e1,e2,e3,e4,e5,e6,e7,e8,e9,e10];(repeat(refine Q3 0 rfl ?_;simp only[go_sem,hw,hv,hm,e1,e2,e3,e4,e5,e6,e7,e8,e9,e10]));refine Q2 (p1) rfl ?_;simp only[go_sem,hw,hv,hm,e1,e2,e3,e4,e5,e6,e7,e8,e9,e10];(repeat(refine Q3 0 rfl ?_;simp only[go_sem,hw,hv,hm,e1,e2,e3,e4,e5,e6,e7,e8,e9,e10]));refine Q2 (p2) rfl ?_;simp only[go_sem,hw,hv,hm,e1,e2,e3,e4,e5,e6,e7,e8,e9,e10];(repeat(refine Q3 0 rfl ?_;simp only[go_sem,hw,hv,hm,e1,e2,e3,e4,e5,e6,e7,e8,e9,e10])))
 .have o5:=zdn o5 (by omega)
  clear hM E6 lg lx ly hg;generalize Nat.gcd x y=g at *
  generalize (x:Int)=X at *
  generalize (y:Int)=Y at *
  refine QH QB call9 func9 rfl ntmps9 results9 (by simp) (by decide) ?_;simp only[go_sem,hw,hv,hm,e1,e2,e3,e4];((repeat(refine Q3 0 rfl ?_;simp only[go_sem,hw,hv,hm,e1,e2,e3,e4]));refine Q2 (hk) rfl ?_;simp only[go_sem,hw,hv,hm,e1,e2,e3,e4];(repeat(refine Q3 0 rfl ?_;simp only[go_sem,hw,hv,hm,e1,e2,e3,e4]));refine Q2 (o1) rfl ?_;simp only[go_sem,hw,hv,hm,e1,e2,e3,e4];(repeat(refine Q3 0 rfl ?_;simp only[go_sem,hw,hv,hm,e1,e2,e3,e4]));refine Q2 (o2) rfl ?_;simp only[go_sem,hw,hv,hm,e1,e2,e3,e4];(repeat(refine Q3 0 rfl ?_;simp only[go_sem,hw,hv,hm,e1,e2,e3,e4]));refine Q2 (o3) rfl ?_;simp only[go_sem,hw,hv,hm,e1,e2,e3,e4];(repeat(refine Q3 0 rfl ?_;simp only[go_sem,hw,hv,hm,e1,e2,e3,e4]));refine Q2 (o4) rfl ?_;simp only[go_sem,hw,hv,hm,e1,e2,e3,e4];(repeat(refine Q3 0 rfl ?_;simp only[go_sem,hw,hv,hm,e1,e2,e3,e4]));refine Q2 (o5) rfl ?_;simp only[go_sem,hw,hv,hm,e1,e2,e3,e4];(repeat(refine Q3 0 rfl ?_;simp only[go_sem,hw,hv,hm,e1,e2,e3,e4])))
end Go.Proofs.YtlgjjcmljmjenaaGreat
namespace Go.Proofs.YtlgjjcmljmjenaaGreat
open Go Go.Abs Go.Proofs.Tryz Go.ChangeShapes Go.WideShapes Go.ChangeAt Go.RowKit
theorem zrC(os:Os)(started:os.Started)(H:Type)(enc:TypeId×Value->H) :
  ReturnsInHanded {} Tryz.checked os 9 .any (Rows.liaCoinsSpec.pre6 enc prog Tryz.f9 Rows.liaCoinsRow.domain false) (Rows.liaCoinsSpec.post enc prog Tryz.f9 false true false false):=by
 refine returnsInHanded_of_change (C:=Tryz.checked) Tryz.ownK started (by kernel_rfl) func9
  (ChangeSpec.witness6 (enc:=enc) (C:=Tryz.checked) false ⟨#[],#[.int .u8 0,.int .u8 0,.int .u8 0],[]⟩ 8 (by kernel_rfl) (by kernel_rfl) (by kernel_rfl) (by kernel_rfl)) ?_
 intro W base args ds gs before YJ hW _ _;refine zgR (S:=zd1) (tb:=4) zhg Tryz.laidOut (by intro t ht;revert t;decide +kernel) rfl Tryz.underlying4 rfl (fun ds h=>?_) (fun tvs h=>?_) YJ hW
 .match ds,h with
  |[d0,d1,d2],_=>rfl
 .obtain⟨x0,_,rfl,h0,h⟩:=zbJ h
  obtain⟨x1,_,rfl,h1,h⟩:=zbJ h;obtain⟨x2,_,rfl,h2,h⟩:=zbJ h;obtain rfl:=zhf h;obtain⟨n0,rfl,k0⟩:=zbO Tryz.underlying5 h0;have k0:=zfL k0;obtain⟨n1,rfl,k1⟩:=zbO Tryz.underlying5 h1;have k1:=zfL k1;obtain⟨n2,rfl,k2⟩:=zbO Tryz.underlying5 h2;have k2:=zfL k2;exact zsx zhn n0 k0.1 k0.2 n1 k1.1 k1.2 n2 k2.1 k2.2
theorem liaCoins_holds:Rows.LiaCoinsSaid :=
 OpenClaim.holds_of_wide 9 Tryz.f9 rfl rfl rfl rfl rfl rfl rfl ⟨rfl,rfl,rfl,rfl,rfl⟩ rfl rfl rfl rfl rfl (by kernel_rfl) func9 (by kernel_rfl)
  (of_decide_eq_true (by kernel_rfl)) (by unfold Func.isWrapper;first|(rw[Qc (by decide +kernel)];kernel_rfl)|(rw[Qb (by decide +kernel)];exact⟨rfl,rfl⟩))
  (fun os started H enc _=>zrC os started H enc)
end Go.Proofs.YtlgjjcmljmjenaaGreat
