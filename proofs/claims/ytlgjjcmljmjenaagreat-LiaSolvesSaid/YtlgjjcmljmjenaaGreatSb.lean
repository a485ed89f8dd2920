/- At every input the call answers true and leaves its arguments as they were; no conditions. -/
import Derived.Test.YtlgjjcmljmjenaaGreatWd
import Derived.Test.YtlgjjcmljmjenaaGreatSa
set_option linter.unusedSimpArgs false
set_option linter.unusedVariables false
set_option maxRecDepth 100000
set_option maxHeartbeats 4000000
namespace Go.Proofs.YtlgjjcmljmjenaaGreat
open Go Go.Abs Go.Proofs.Tryz
theorem zuM(xs:List Nat)(i:Nat):(xs.map fun x:Nat=>(x:Int)).take i++(xs.map fun x:Nat=>(x:Int)).drop (i+1)=(xs.eraseIdx i).map fun x:Nat=>(x:Int):=by
 rw[List.eraseIdx_eq_take_drop_succ,waG,wdc,List.map_drop]
theorem zqw:∀ xs:List Nat,Q5 cI1 xs=xs.map fun x:Nat=>Abs.C.t (.lit (.int .i64 (x:Int)))
 |[]=>rfl
 |x::xs=>by rw[zcq,zqw xs];rfl
theorem zqx{xs:List Nat}{j:Nat}(hj:j<xs.length)(h:j<(Q5 cI1 xs).length):(Q5 cI1 xs)[j]=Abs.C.t (.lit (.int .i64 (xs[j]:Int))):=by
 simp only[zqw,Qq]
theorem zuN{vs:Array Value}(hs:vs.size=3):∃ a b c,vs=#[a,b,c]:=by
 obtain⟨l⟩:=vs
 match l,hs with
 |[a,b,c],_=>exact⟨a,b,c,rfl⟩
theorem zpq:ze6:=by
 intro xs i hi;refine⟨call64,fun ρ ok w vs hH hv=>?_⟩;have YL:(Q5 cI1 xs).length=xs.length:=by rw[zcC ZW];omega
 obtain⟨c,arr,el,h1,h2,h3,h4⟩:=hH.heap PIN (Q5 cI1 xs) (by show(if PIN=PIN then _ else _)=_;rw[Qc rfl]);rw[YL]at h3;have Ki:∀ j (hj:j<xs.length),arr[j]? = some (.int .i64 (xs[j]:Int)):=fun j hj=>by
  have LF:j<arr.size:=by omega
  have:=h4 j (by omega) LF;rw[zqx hj]at this;rw[waW LF];generalize arr[j]=v at this;cases this with
  |t h=>cases h with
   |lit _=>rfl
 obtain⟨hs,hg⟩:=hv;obtain⟨v0,v1,v2,rfl⟩:=zuN hs;have g0:=hg 0 (by simp) (by simp);have g1:=hg 1 (by simp) (by simp);have g2:=hg 2 (by simp) (by simp);simp only[wcG,wcH,wcf]at g0 g1 g2;obtain⟨cap,LG,Vj,LH,rfl⟩:∃ cap,xs.length<=cap/\(∃ k,zlG w c k/\0+cap*1<=k)/\True/\v0 = .slice (some ⟨c,0,none⟩) xs.length cap:=by
  cases g0 with
  |one g0=>cases g0 with
   |vec a b d e =>
    rw[h1]at a;cases a
    exact⟨_,b,⟨_,d,e⟩,trivial,rfl⟩
 obtain rfl:v1 = .int .i64 (i:Int):=by
  cases g1 with
  |one g1=>cases g1 with
   |t g1=>cases g1 with
    |lit _=>rfl
 obtain rfl:v2 = .int .i64 ((i:Int)+1):=by
  cases g2 with
  |one g2=>cases g2 with
   |t g2=>cases g2 with
    |lit _=>rfl
 obtain⟨d,hd⟩:∃ d:Array Int,d=(xs.map fun x:Nat=>(x:Int)).toArray:=⟨_,rfl⟩
 have LI:d.size=xs.length:=by rw[hd];simp
 have OD:Go.Sort.Holds Go.Proofs.encI w c 0 d:=fun j hj=>by
  rw[LI]at hj;refine⟨?_,by simp[World.frozen?,h2]⟩;have e1:d[j]! = (xs[j]:Int):=by rw[getElem!_pos d j (by omega)];simp[hd]
  rw[e1];simp only[World.cell?,h2,waY];exact Ki j hj
 have hx:=zvW c 0 cap i (i+1) d w OD (by omega) (by omega) (by omega);have Y1:(xs.eraseIdx i).length=xs.length-1:=wcR hi;obtain⟨D,hD⟩:∃ D:Array Int,D=(d.toList.take i++d.toList.drop (i+1)++List.replicate (i+1-i) 0).toArray:=⟨_,rfl⟩
 have LJ:D=((xs.eraseIdx i).map (fun x:Nat=>(x:Int))++[0]).toArray:=by
  rw[hD,hd,show i+1-i=1 by omega,<-zuM];rfl
 have SA:D.size=xs.length:=by rw[LJ];simp;omega
 rw[LI,show xs.length-(i+1-i)=xs.length-1 by omega,show((i+1:Nat):Int)=(i:Int)+1 from rfl,<-hD]at hx;refine Calls.mono hx ?_;rintro e w' ⟨rfl,q,rfl⟩;obtain⟨f,hf⟩:∃ f:Array Value->Array Value,f=Go.Sort.putCells Go.Proofs.encI 0 D:=⟨_,rfl⟩
 obtain⟨w',UJ⟩:∃ w',w'=Go.Sort.putRow Go.Proofs.encI (Go.Sort.ahead w q) c 0 D:=⟨_,rfl⟩
 rw[<-UJ];have KX:w'.heap=w.heap.modify c (Go.Sort.onCells f):=by rw[UJ,hf];rfl
 have XE:w'.heap.size=w.heap.size:=by rw[KX,Array.size_modify]
 have VL:∀ n,n≠c->w'.heap[n]? = w.heap[n]?:=fun n hn=>by rw[KX,wdr,Qb (Ne.symm hn)]
 have XZ:w'.heap[c]? = some (.cells (f arr) el (0,0)):=by rw[KX,wdr,Qc rfl,h2];rfl
 have Nd:(f arr).size=arr.size:=by rw[hf];simp[Go.Sort.putCells]
 have OE:∀ j (hj:j<(xs.eraseIdx i).length) (Yz:j<(f arr).size),(f arr)[j] = .int .i64 ((xs.eraseIdx i)[j]:Int):=fun j hj Yz=>by
  have e1:D[j]! = ((xs.eraseIdx i)[j]:Int):=by
   rw[getElem!_pos D j (by omega)];simp only[LJ,wcf];rw[wbt (by simpa using hj),Qq]
  simp only[hf,Go.Sort.putCells,Array.getElem_mapIdx];rw[Qc (by omega),wbI,e1]
 have GR:∀ n el' k,w.shape? n=some (el',k)->w'.shape? n=some (el',k):=fun n el' k hn=>by
  by_cases e:n=c
  .subst e
   simp only[World.shape?,h2,XZ,Nd]at hn ⊢;exact hn
  .simp only[World.shape?,VL n e];exact hn
 obtain⟨ks,⟨els,OF⟩,FJ⟩:=Vj;have VR:zai ok w w':=fun n hn=>VL n fun e=>(hH.okR n hn).2 PIN (e▸h1)
 refine⟨_,ρ,ok,rfl,.one (.vec h1 (by omega) ⟨els,GR _ _ _ OF⟩ FJ),⟨fun b cs hb=>?_,fun b hb=>?_,hH.inj,fun n hn=>⟨by rw[XE];exact(hH.okR n hn).1,(hH.okR n hn).2⟩⟩,⟨by omega,fun n hn hb=>VL n fun e=>hb PIN (e▸h1),GR,fun b n hb=>.inl ⟨b,hb⟩,fun n hn=>hn,fun n hn=>.inl hn,fun b hb=>.inl rfl,by rw[UJ];exact⟨rfl,rfl⟩⟩,fun b c hb=>hb⟩
 .have hb:(if b=PIN then some (Q5 cI1 (xs.eraseIdx i))else none)=some cs:=hb
  split at hb
  .rename_i e
   subst e;cases hb
   have YW:(Q5 cI1 (xs.eraseIdx i)).length=xs.length-1:=by rw[zcC ZW];omega
   refine⟨c,f arr,el,h1,XZ,by omega,fun j hj Yz=>?_⟩;rw[zqx (by omega) hj,OE j (by omega) Yz];exact .t (.lit rfl)
  .cases hb
 .refine hH.dom b ?_
  have hb:(if b=PIN then some (Q5 cI1 (xs.eraseIdx i))else none)=none:=hb;split at hb
  .cases hb
  .rename_i e;show(if b=PIN then _ else none)=none;rw[Qb e]
end Go.Proofs.YtlgjjcmljmjenaaGreat
