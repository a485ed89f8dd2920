/- At every input the call answers true and leaves its arguments as they were; no conditions. -/
import Derived.Test.YtlgjjcmljmjenaaGreatWd
import Derived.Test.YtlgjjcmljmjenaaGreatSa
set_option linter.unusedSimpArgs false
set_option linter.unusedVariables false
set_option maxRecDepth 100000
set_option maxHeartbeats 4000000
namespace Go.Proofs.YtlgjjcmljmjenaaGreat
open Go Go.Abs Go.Proofs.Tryz
theorem zuG(xs:List Nat)(i:Nat):(xs.map fun x:Nat=>(x:Int)).take i++(xs.map fun x:Nat=>(x:Int)).drop (i+1)=(xs.eraseIdx i).map fun x:Nat=>(x:Int):=by
 rw[List.eraseIdx_eq_take_drop_succ,waK,wdg,List.map_drop]
theorem zqq:∀ xs:List Nat,Q5 cI1 xs=xs.map fun x:Nat=>Abs.C.t (.lit (.int .i64 (x:Int)))
 |[]=>rfl
 |x::xs=>by rw[zcr,zqq xs];rfl
theorem zqr{xs:List Nat}{j:Nat}(hj:j<xs.length)(h:j<(Q5 cI1 xs).length):(Q5 cI1 xs)[j]=Abs.C.t (.lit (.int .i64 (xs[j]:Int))):=by
 simp only[zqq,Qq]
theorem zuH{vs:Array Value}(hs:vs.size=3):∃ a b c,vs=#[a,b,c]:=by
 obtain⟨l⟩:=vs
 match l,hs with
 |[a,b,c],_=>exact⟨a,b,c,rfl⟩
theorem zhn:zdh:=by
 intro xs i hi;refine⟨call64,fun ρ ok w vs hH hv=>?_⟩;have YN:(Q5 cI1 xs).length=xs.length:=by rw[zcG Ya];omega
 obtain⟨c,arr,el,h1,h2,h3,h4⟩:=hH.heap PIN (Q5 cI1 xs) (by show(if PIN=PIN then _ else _)=_;rw[Qc rfl]);rw[YN]at h3;have Kq:∀ j (hj:j<xs.length),arr[j]? = some (.int .i64 (xs[j]:Int)):=fun j hj=>by
  have LT:j<arr.size:=by omega
  have:=h4 j (by omega) LT;rw[zqr hj]at this;rw[waY LT];generalize arr[j]=v at this;cases this with
  |t h=>cases h with
   |lit _=>rfl
 obtain⟨hs,hg⟩:=hv;obtain⟨v0,v1,v2,rfl⟩:=zuH hs;have g0:=hg 0 (by simp) (by simp);have g1:=hg 1 (by simp) (by simp);have g2:=hg 2 (by simp) (by simp);simp only[wcI,wcJ,wcj]at g0 g1 g2;obtain⟨cap,LU,XU,LV,rfl⟩:∃ cap,xs.length<=cap/\(∃ k,zlR w c k/\0+cap*1<=k)/\True/\v0 = .slice (some ⟨c,0,none⟩) xs.length cap:=by
  cases g0 with
  |one g0=>cases g0 with
   |vec a b d e =>
    rw[h1]at a;cases a
    exact⟨_,b,⟨_,d,e⟩,trivial,rfl⟩
 obtain rfl:v1 = .int .i64 (i:Int):=by
  cases g1 with
  |one g1=>cases g1 with
   |t g1=>cases g1 with
    |lit _=>rfl
 obtain rfl:v2 = .int .i64 ((i:Int)+1):=by
  cases g2 with
  |one g2=>cases g2 with
   |t g2=>cases g2 with
    |lit _=>rfl
 obtain⟨d,hd⟩:∃ d:Array Int,d=(xs.map fun x:Nat=>(x:Int)).toArray:=⟨_,rfl⟩
 have LW:d.size=xs.length:=by rw[hd];simp
 have OF:Go.Sort.Holds Go.Proofs.encI w c 0 d:=fun j hj=>by
  rw[LW]at hj;refine⟨?_,by simp[World.frozen?,h2]⟩;have e1:d[j]! = (xs[j]:Int):=by rw[getElem!_pos d j (by omega)];simp[hd]
  rw[e1];simp only[World.cell?,h2,waT];exact Kq j hj
 have hx:=zvJ c 0 cap i (i+1) d w OF (by omega) (by omega) (by omega);have Y5:(xs.eraseIdx i).length=xs.length-1:=wcW hi;obtain⟨D,hD⟩:∃ D:Array Int,D=(d.toList.take i++d.toList.drop (i+1)++List.replicate (i+1-i) 0).toArray:=⟨_,rfl⟩
 have LX:D=((xs.eraseIdx i).map (fun x:Nat=>(x:Int))++[0]).toArray:=by
  rw[hD,hd,show i+1-i=1 by omega,<-zuG];rfl
 have SB:D.size=xs.length:=by rw[LX];simp;omega
 rw[LW,show xs.length-(i+1-i)=xs.length-1 by omega,show((i+1:Nat):Int)=(i:Int)+1 from rfl,<-hD]at hx;refine Calls.mono hx ?_;rintro e w' ⟨rfl,q,rfl⟩;obtain⟨f,hf⟩:∃ f:Array Value->Array Value,f=Go.Sort.putCells Go.Proofs.encI 0 D:=⟨_,rfl⟩
 obtain⟨w',UQ⟩:∃ w',w'=Go.Sort.putRow Go.Proofs.encI (Go.Sort.ahead w q) c 0 D:=⟨_,rfl⟩
 rw[<-UQ];have Jh:w'.heap=w.heap.modify c (Go.Sort.onCells f):=by rw[UQ,hf];rfl
 have XF:w'.heap.size=w.heap.size:=by rw[Jh,Array.size_modify]
 have VN:∀ n,n≠c->w'.heap[n]? = w.heap[n]?:=fun n hn=>by rw[Jh,wdx,Qb (Ne.symm hn)]
 have Ve:w'.heap[c]? = some (.cells (f arr) el (0,0)):=by rw[Jh,wdx,Qc rfl,h2];rfl
 have Ns:(f arr).size=arr.size:=by rw[hf];simp[Go.Sort.putCells]
 have OG:∀ j (hj:j<(xs.eraseIdx i).length) (Y2:j<(f arr).size),(f arr)[j] = .int .i64 ((xs.eraseIdx i)[j]:Int):=fun j hj Y2=>by
  have e1:D[j]! = ((xs.eraseIdx i)[j]:Int):=by
   rw[getElem!_pos D j (by omega)];simp only[LX,wcj];rw[wby (by simpa using hj),Qq]
  simp only[hf,Go.Sort.putCells,Array.getElem_mapIdx];rw[Qc (by omega),wbP,e1]
 have Dd:∀ n el' k,w.shape? n=some (el',k)->w'.shape? n=some (el',k):=fun n el' k hn=>by
  by_cases e:n=c
  .subst e
   simp only[World.shape?,h2,Ve,Ns]at hn ⊢;exact hn
  .simp only[World.shape?,VN n e];exact hn
 obtain⟨ks,⟨els,OH⟩,FZ⟩:=XU;have VU:zah ok w w':=fun n hn=>VN n fun e=>(hH.okR n hn).2 PIN (e▸h1)
 refine⟨_,ρ,ok,rfl,.one (.vec h1 (by omega) ⟨els,Dd _ _ _ OH⟩ FZ),⟨fun b cs hb=>?_,fun b hb=>?_,hH.inj,fun n hn=>⟨by rw[XF];exact(hH.okR n hn).1,(hH.okR n hn).2⟩⟩,⟨by omega,fun n hn hb=>VN n fun e=>hb PIN (e▸h1),Dd,fun b n hb=>.inl ⟨b,hb⟩,fun n hn=>hn,fun n hn=>.inl hn,fun b hb=>.inl rfl,by rw[UQ];exact⟨rfl,rfl⟩⟩,fun b c hb=>hb⟩
 .have hb:(if b=PIN then some (Q5 cI1 (xs.eraseIdx i))else none)=some cs:=hb
  split at hb
  .rename_i e
   subst e;cases hb
   have Xo:(Q5 cI1 (xs.eraseIdx i)).length=xs.length-1:=by rw[zcG Ya];omega
   refine⟨c,f arr,el,h1,Ve,by omega,fun j hj Y2=>?_⟩;rw[zqr (by omega) hj,OG j (by omega) Y2];exact .t (.lit rfl)
  .cases hb
 .refine hH.dom b ?_
  have hb:(if b=PIN then some (Q5 cI1 (xs.eraseIdx i))else none)=none:=hb;split at hb
  .cases hb
  .rename_i e;show(if b=PIN then _ else none)=none;rw[Qb e]
end Go.Proofs.YtlgjjcmljmjenaaGreat
