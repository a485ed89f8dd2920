/- At every input the call answers true and leaves its arguments as they were; no conditions. -/
import Derived.Test.YtlgjjcmljmjenaaGreatCa
import Derived.Test.YtlgjjcmljmjenaaGreatAi
import Derived.Test.YtlgjjcmljmjenaaGreatNa
import Derived.Test.YtlgjjcmljmjenaaGreatHa
set_option linter.unusedSimpArgs false
set_option linter.unusedVariables false
set_option maxRecDepth 100000
set_option maxHeartbeats 32000000
namespace Go.Proofs.YtlgjjcmljmjenaaGreat
open Go Go.Abs Go.Proofs.Tryz
def cJ(z:Int):List T:=[.lit (.bool (decide (z<0))),eN (dig z.natAbs)]
theorem Ye(z:Int):(cJ z).length=2:=rfl
attribute [go_sem] cJ
structure MX where
 n:Nat
 R:Nat
 g:Nat->Nat->Int
 s:Nat->Nat
def ZS(b sz len:Nat)(s:Nat->Nat)(n:Nat):List C:=(List.range n).map fun i=>.vec (b+s i) sz 0 len
theorem zfY{b sz len n:Nat}{s:Nat->Nat}:(ZS b sz len s n).length=n:=by unfold ZS;simp
theorem zi3{b sz len n i:Nat}{s:Nat->Nat}(h:i<n):(ZS b sz len s n).drop i = .vec (b+s i) sz 0 len::(ZS b sz len s n).drop (i+1):=by
 rw[waw (by rw[zfY];exact h)];congr 1;have h':i<((List.range n).map fun i=>C.vec (b+s i) sz 0 len).length:=by simpa using h
 show((List.range n).map fun i=>C.vec (b+s i) sz 0 len)[i]'(h')=_;simp
theorem zut{b sz len n i k:Nat}{s:Nat->Nat}:(ZS b sz len s n).set i (.vec (b+k) sz 0 len)=ZS b sz len (fun j=>if j=i then k else s j) n:=by
 apply wc7
 .simp[ZS]
 .intro j h1 h2
  rw[List.getElem_set];have h3:j<n:=by rw[zfY]at h2;exact h2
  have e:∀ (s:Nat->Nat) (h:j<(ZS b sz len s n).length),(ZS b sz len s n)[j]'h = .vec (b+s j) sz 0 len:=fun s h=>by
   have h':j<((List.range n).map fun i=>C.vec (b+s i) sz 0 len).length:=by simpa using h3
   show((List.range n).map fun i=>C.vec (b+s i) sz 0 len)[j]'(h')=_;simp
  rw[e,e];by_cases c:i=j
  .rw[Qc c,Qc c.symm]
  .rw[Qb c,Qb (fun h=>c h.symm)]
theorem zwf{b sz len n:Nat}{s:Nat->Nat}{θ:Nat->Nat}(h:∀ i,i<n->thI θ (b+s i)=thI θ b+s i):(ZS b sz len s n).map (thC θ)=ZS (thI θ b) sz len s n:=by
 unfold ZS;rw[wac];exact wau fun i hi=>by show C.vec (thI θ (b+s i)) sz 0 len=_;rw[h i (waJ.1 hi)]
abbrev MX.N(M:MX):Nat:=M.R+M.n+M.n
def mk4(b:Nat)(M:MX):List (Nat×List C):=[(b,[.vec (b+1) 1 0 M.R,.vec (b+2) 1 0 M.n,.vec (b+3) 1 0 M.n]),(b+1,rowsC (b+100) 2 M.n M.R),(b+2,rowsC (b+100+M.R) 2 M.n M.n),(b+3,ZS (b+100+M.R+M.n) 2 M.n M.s M.n)]
def mkL(b:Nat)(M:MX):List (Nat×List C):=zae (b+100) cJ (fun i=>fnG M.n (M.g i)) M.N++mk4 b M
def mkE(b:Nat)(M:MX)(e:List (Nat×List C)):List (Nat×List C):=mkL b M++e
def xM(M:MX):QD:=QB (mkE PIN M [])
theorem zpc(b:Nat)(M:MX):mkE b M []=mkL b M:=wal _
theorem zbQ(M:MX):xM M=QB (mkL PIN M):=by unfold xM;rw[zpc]
theorem zer(b:Nat)(M:MX):(mkL b M).map (·.1)=zco (b+100) M.N++[b,b+1,b+2,b+3]:=by
 unfold mkL;rw[waG,zk0];rfl
theorem zfj{b k:Nat}{M:MX}(h:k∈(mkL b M).map (·.1)):b<=k/\k<b+100+M.N:=by
 rw[zer]at h;rcases wan.1 h with h|h
 .unfold zco at h
  obtain⟨i,hi,rfl⟩:=Qp.1 h;have:=waJ.1 hi;omega
 .simp only[wab,List.not_mem_nil,Qv]at h;omega
theorem zci(b:Nat)(M:MX)(k:Nat):QB (mkL b M) (b+k)=if 100<=k/\k<100+M.N then some (Q5 cJ (fnG M.n (M.g (k-100))))else if k=0 then some [.vec (b+1) 1 0 M.R,.vec (b+2) 1 0 M.n,.vec (b+3) 1 0 M.n]
  else if k=1 then some (rowsC (b+100) 2 M.n M.R)else if k=2 then some (rowsC (b+100+M.R) 2 M.n M.n)else if k=3 then some (ZS (b+100+M.R+M.n) 2 M.n M.s M.n)else none:=by
 unfold mkL;rw[zcE];by_cases c1:100<=k/\k<100+M.N
 .rw[Qc c1,Qc ⟨by omega,by omega⟩,show b+k-(b+100)=k-100 by omega]
 .rw[Qb c1,Qb (fun h=>c1 ⟨by omega,by omega⟩)]
  show(if b+k=b then _ else if b+k=b+1 then _ else if b+k=b+2 then _ else if b+k=b+3 then _ else none)=_;by_cases k0:k=0
  .rw[Qc (by omega),Qc k0]
  .rw[Qb (by omega),Qb k0]
   by_cases k1:k=1
   .rw[Qc (by omega),Qc k1]
   .rw[Qb (by omega),Qb k1]
    by_cases k2:k=2
    .rw[Qc (by omega),Qc k2]
    .rw[Qb (by omega),Qb k2]
     by_cases k3:k=3
     .rw[Qc (by omega),Qc k3]
     .rw[Qb (by omega),Qb k3]
theorem zfk(M:MX)(b:Nat)(h:b<PIN):xM M b=none:=by rw[zbQ];exact zdQ (fun k hk=>(zfj hk).1) b h
theorem zdc{M M':MX}(h1:M'.n=M.n)(h2:M'.R=M.R)(b:Nat):xM M' b=none↔xM M b=none:=by
 rw[zbQ,zbQ,zbi,zbi,zer,zer];unfold MX.N;rw[h1,h2]
theorem zDu{b k:Nat}{M:MX}{e:List (Nat×List C)}{D:List Nat}:((mkL b M).map (·.1)++D).contains (b+k)=(decide (100<=k/\k<100+M.N)||(decide (k<4)||D.contains (b+k))):=by
 rw[zer,waM,zmB];have:(decide (b+100<=b+k)&&decide (b+k<b+100+M.N))=decide (100<=k/\k<100+M.N):=by
  rw[waU];simp;omega
 rw[this];congr 1;rw[waU];simp;constructor
 .rintro(h|h|h|h|h)
  .left;omega
  .left;omega
  .left;omega
  .left;omega
  .right;exact h
 .rintro(h|h)
  .have:k=0\/k=1\/k=2\/k=3:=by omega
   rcases this with rfl|rfl|rfl|rfl<;>simp
  .simp[h]
theorem zte{b sz len n:Nat}{s:Nat->Nat}{D:List Nat}(h:∀ i,i<n->b+s i∈D):(ZS b sz len s n).all (Z9 D)=true:=by
 unfold ZS;rw[wai];intro c hc;obtain⟨i,hi,rfl⟩:=Qp.1 hc;show D.contains (b+s i)=true;rw[waE];exact h i (waJ.1 hi)
theorem zhc{b i:Nat}{M:MX}{D:List Nat}(h:i<M.N):b+100+i∈(mkL b M).map (·.1)++D:=by
 rw[zer];refine wbR _ (wbR _ ?_);unfold zco;exact Qp.2 ⟨i,waJ.2 h,rfl⟩
theorem zle{b i:Nat}{M:MX}{D:List Nat}(h:i<4):b+i∈(mkL b M).map (·.1)++D:=by
 rw[zer];refine wbR _ (wbB _ ?_);have:i=0\/i=1\/i=2\/i=3:=by omega
 rcases this with rfl|rfl|rfl|rfl<;>simp
def MX.Ok(M:MX):Prop:=∀ i,i<M.n->M.s i<M.n
theorem znX(b:Nat)(M:MX)(hs:M.Ok)(D:List Nat):QT ((mkL b M).map (·.1)++D) (mkL b M)=true:=by
 have hD:∀ i,i<4->Z9 ((mkL b M).map (·.1)++D) (.vec (b+i) 1 0 0)=true:=fun i hi=>by
  show List.contains _ _=true;rw[waE];exact zle hi
 generalize hE:(mkL b M).map (·.1)++D=E at *
 unfold mkL;rw[zkA];unfold mk4;simp only[QT,wdQ,List.all_nil,wcC,wag];refine⟨⟨hD 1 (by omega),hD 2 (by omega),hD 3 (by omega)⟩,zmS fun i hi=>?_,zmS fun i hi=>?_,zte fun i hi=>?_⟩
 .rw[<-hE];exact zhc (by unfold MX.N;omega)
 .rw[<-hE,wbg];exact zhc (by unfold MX.N;omega)
 .have:=hs i hi
  rw[<-hE,show b+100+M.R+M.n+M.s i=b+100+(M.R+M.n+M.s i) by omega];exact zhc (by unfold MX.N;omega)
theorem zwg(b:Nat)(M:MX)(hs:M.Ok):QT ((mkL b M).map (·.1)) (mkL b M)=true:=by
 have:=znX b M hs []
 rwa[wal]at this
theorem zfu(M:MX)(hs:M.Ok):∀ b cs,xM M b=some cs->∀ c∈cs,inC (xM M) c:=by rw[zbQ];exact zb9 (zwg PIN M hs)
theorem zjT{M:MX}:inA (xM M) (.one (.ptr PIN 0)):=by
 show xM M PIN≠none;rw[zbQ,Ne,zbi,zer];intro h;exact h (by simp)
theorem zj8{α:Type}{f:α->List T}{xs:List α}{θ:Nat->Nat}:(Q5 f xs).map (thC θ)=Q5 f xs:=by
 unfold Q5;rw[wac];rfl
theorem zct{d k:Nat}:thI (fun k=>d+k) (PIN+k)=d+k:=by show d+(PIN+k-PIN)=d+k;omega
theorem zmb(d:Nat)(M:MX)(k:Nat){cs:List C}(h:xM M (PIN+k)=some cs):QB (mkL d M) (d+k)=some (cs.map (thC fun k=>d+k)):=by
 rw[zbQ,zci]at h;rw[zci];split
 .rename_i c;rw[Qc c]at h;cases h;rw[zj8]
 .rename_i c;rw[Qb c]at h
  split
  .rename_i c;rw[Qc c]at h;cases h
   show some [_,_,_]=some [C.vec (thI (fun k=>d+k) (PIN+1)) 1 0 M.R,C.vec (thI (fun k=>d+k) (PIN+2)) 1 0 M.n,C.vec (thI (fun k=>d+k) (PIN+3)) 1 0 M.n];rw[zct,zct,zct]
  .rename_i c;rw[Qb c]at h
   split
   .rename_i c;rw[Qc c]at h;cases h
    rw[zk1 fun i hi=>by rw[zct,show PIN+100+i=PIN+(100+i) by omega,zct];omega,zct]
   .rename_i c;rw[Qb c]at h
    split
    .rename_i c;rw[Qc c]at h;cases h
     rw[show PIN+100+M.R=PIN+(100+M.R) by omega,zk1 fun i hi=>by rw[zct,show PIN+(100+M.R)+i=PIN+(100+M.R+i) by omega,zct];omega,zct,wbg]
    .rename_i c;rw[Qb c]at h
     split
     .rename_i c;rw[Qc c]at h;cases h
      rw[show PIN+100+M.R+M.n=PIN+(100+M.R+M.n) by omega,zwf fun i hi=>by rw[zct,show PIN+(100+M.R+M.n)+M.s i=PIN+(100+M.R+M.n+M.s i) by omega,zct];omega,zct,show d+100+M.R+M.n=d+(100+M.R+M.n) by omega]
     .rename_i c;rw[Qb c]at h;cases h
theorem zfv{M:MX}{b:Nat}(h:xM M b≠none):PIN<=b/\b<PIN+100+M.N:=by
 rw[zbQ,Ne,zbi]at h;exact zfj (wcP.1 h)
def AtM(H:QD)(b:Nat)(M:MX):Prop:=∀ k cs,QB (mkL b M) (b+k)=some cs->H (b+k)=some cs
theorem zy0{F:FuncId}{ys args:List AV}{M:MX}{H:QD}{r:AV}(d:Nat)(h:Zf prog F args (xM M) r (xM M))(hs:M.Ok)(YY:ys=args.map (thA (fun k=>d+k)))(YB:∀ x∈args,inA (xM M) x)
  (hH:AtM H d M):RdC prog F ys H (thA (fun k=>d+k) r):=by
 subst YY;have hk:∀ b,PIN<=b->PIN+(b-PIN)=b:=fun b hb=>by omega
 refine zeC (fun k=>d+k) h (zfk M) (fun b b' hb hb' e=>?_) (zfu M hs) YB fun b cs hb=>?_
 .have h1:=zfv hb
  have h2:=zfv hb';have e:d+(b-PIN)=d+(b'-PIN):=e;omega
 .have h1:=zfv (b:=b) (M:=M) (by rw[hb];simp)
  exact hH (b-PIN) _ (zmb d M _ (by rw[hk b h1.1];exact hb))
theorem zi4{m:Nat}{F:FuncId}{ys args:List AV}{M M':MX}{σ:St}{K:AV->St->Prop}{r:AV}(d:Nat)(hm:m=1\/m=2)(h:Zf prog F args (xM M) r (xM M'))(hs:M.Ok)(hn:M'.n=M.n)(hR:M'.R=M.R)(YY:ys=args.map (thA (fun k=>d+k)))(YB:∀ x∈args,inA (xM M) x)
  (hH:AtM σ.H d M) (hK:K (thA (fun k=>d+k) r) (σ.withH (fun t=>(QB (mkL d M') t).or (σ.H t)))):ZK prog m F ys σ K:=by
 have hk:∀ b,PIN<=b->PIN+(b-PIN)=b:=fun b hb=>by omega
 refine zi0 (fun k=>d+k) hm h YY (zfk M) (zdc hn hR) (fun b b' hb hb' e=>?_) (zfu M hs) YB (fun b cs hb=>?_) (fun b cs hb=>?_) (fun b hb=>?_) hK
 .have h1:=zfv hb
  have h2:=zfv hb';have e:d+(b-PIN)=d+(b'-PIN):=e;omega
 .have h1:=zfv (b:=b) (M:=M) (by rw[hb];simp)
  exact hH (b-PIN) _ (zmb d M _ (by rw[hk b h1.1];exact hb))
 .have h1:=zfv (b:=b) (M:=M') (by rw[hb];simp)
  show(QB (mkL d M') (d+(b-PIN))).or _=_;rw[zmb d M' _ (by rw[hk b h1.1];exact hb)];rfl
 .show(QB (mkL d M') b).or (σ.H b)=σ.H b
  cases hx:QB (mkL d M') b with
  |none=>rfl
  |some cs =>
   exfalso;have hm:b∈(mkL d M').map (·.1):=waD fun X9=>by rw[zbg X9]at hx;cases hx
   have Fo:=zfj hm;have e:d+(b-d)=b:=by omega
   refine hb (PIN+(b-d)) ?_ ?_
   .refine fun KG=>?_
    have Y7:=(zdc hn hR _).2 KG;rw[zbQ,zci]at Y7;rw[<-e,zci]at hx;revert Y7 hx;split
    .intro _ h1;cases h1
    .split
     .intro _ h1;cases h1
     .split
      .intro _ h1;cases h1
      .split
       .intro _ h1;cases h1
       .split
        .intro _ h1;cases h1
        .intro h1;cases h1
   .show d+(PIN+(b-d)-PIN)=b;omega
section
variable {b t i:Nat} {M:MX} {e:List (Nat×List C)} {D:List Nat}
theorem zc2:∀ (l l':List (Nat×List C)) (t:Nat),QB (l++l') t=(QB l t).or (QB l' t)
 |[],_,_=>rfl
 |(k,v)::l,l',t=>by
  show(if t=k then some v else QB (l++l') t)=(if t=k then some v else QB l t).or _;by_cases e:t=k
  .rw[Qc e,Qc e];rfl
  .rw[Qb e,Qb e];exact zc2 l l' t
theorem zgp(k:Nat):QB (mkE b M e) (b+k)=(QB (mkL b M) (b+k)).or (QB e (b+k)):=zc2 _ _ _
@[go_sem] theorem mkK0:QB (mkE b M e) b=some [.vec (b+1) 1 0 M.R,.vec (b+2) 1 0 M.n,.vec (b+3) 1 0 M.n]:=by
 have:=zgp (b:=b) (M:=M) (e:=e) 0;rw[zci]at this;rw[Qb (by omega),Qc rfl]at this;exact this
@[go_sem] theorem mkK1:QB (mkE b M e) (b+1)=some (rowsC (b+100) 2 M.n M.R):=by
 rw[zgp,zci,Qb (by omega),Qb (by omega),Qc rfl];rfl
@[go_sem] theorem mkK2:QB (mkE b M e) (b+2)=some (rowsC (b+100+M.R) 2 M.n M.n):=by
 rw[zgp,zci,Qb (by omega),Qb (by omega),Qb (by omega),Qc rfl];rfl
@[go_sem] theorem mkK3:QB (mkE b M e) (b+3)=some (ZS (b+100+M.R+M.n) 2 M.n M.s M.n):=by
 rw[zgp,zci,Qb (by omega),Qb (by omega),Qb (by omega),Qb (by omega),Qc rfl];rfl
theorem zck(h:i<M.N):QB (mkE b M e) (b+100+i)=some (Q5 cJ (fnG M.n (M.g i))):=by
 rw[show b+100+i=b+(100+i) by omega,zgp,zci,Qc ⟨by omega,by omega⟩,show 100+i-100=i by omega];rfl
theorem Za(h:t<b):QB (mkE b M e) t=QB e t:=by
 unfold mkE;rw[zc2,zbg fun hm=>by have:=zfj hm;omega];rfl
theorem zcd{σ:St}:∀ (l l':List (Nat×List C)),ZA σ (l++l')=(ZA σ l/\ZA σ l')
 |[],l'=>by simp[ZA]
 |(k,v)::l,l'=>by show(σ.H k=some v/\ZA σ (l++l'))=((σ.H k=some v/\ZA σ l)/\ZA σ l');rw[zcd l l',and_assoc]
@[go_sem] theorem zDv{σ:St}:ZA σ (mkE b M e)=(AtM σ.H b M/\ZA σ e):=by
 unfold mkE;rw[zcd];congr 1;refine propext ⟨fun h k cs hk=>(h.look _ _ hk).1,fun h=>?_⟩;have h2:∀ k cs,QB (mkL b M) k=some cs->σ.H k=some cs:=fun k cs hk=>by
  have hm:k∈(mkL b M).map (·.1):=waD fun hn=>by rw[zbg hn]at hk;cases hk
  have:=zfj hm;have e:b+(k-b)=k:=by omega
  rw[<-e];exact h (k-b) cs (by rw[e];exact hk)
 have h3:∀ k cs,QB (mkE b M []) k=some cs->σ.H k=some cs:=fun k cs hk=>by rw[zpc]at hk;exact h2 k cs hk
 unfold mkL;rw[zoF];exact⟨fun i hi=>h3 _ _ (zck hi),h3 _ _ mkK0,h3 _ _ mkK1,h3 _ _ mkK2,h3 _ _ mkK3,trivial⟩
@[go_sem] theorem za1:AtM (QB (mkE b M e)) b M=True:=Qf fun k cs h=>by rw[zgp,h];rfl
theorem zaA{H:QD}{x:Option (List C)}(h:t<b):AtM (upd H t x) b M=AtM H b M:=by
 refine propext ⟨fun h2 k cs hc=>?_,fun h2 k cs hc=>?_⟩
 .have:=h2 k cs hc
  rw[zaE,Qb (by omega)]at this;exact this
 .rw[zaE,Qb (by omega)];exact h2 k cs hc
theorem AtM.row{H:QD}{g':Nat->Nat->Int}(h:AtM H b M){r:Nat}(f:Nat->Int)(hg:∀ i,i<M.N->∀ j,j<M.n->g' i j=if i=r then f j else M.g i j) :
  AtM (upd H (b+100+r) (some (Q5 cJ (fnG M.n f)))) b ⟨M.n,M.R,g',M.s⟩:=fun k cs hc=>by
 have h0:=h k;rw[zci]at hc h0;rw[zaE];by_cases c1:100<=k/\k<100+M.N
 .rw[Qc (show 100<=k/\k<100+MX.N ⟨M.n,M.R,g',M.s⟩from c1)]at hc
  rw[Qc c1]at h0;have hc:some (Q5 cJ (fnG M.n (g' (k-100))))=some cs:=hc;rw[<-hc];by_cases e:k=100+r
  .subst e
   rw[Qc (by omega),show 100+r-100=r by omega];congr 2;exact Yk fun j hj=>by rw[hg r (by omega) j hj,Qc rfl]
  .rw[Qb (by omega),h0 _ rfl]
   congr 2;exact Yk fun j hj=>by rw[hg _ (by omega) j hj,Qb (by omega)]
 .rw[Qb (show ¬(100<=k/\k<100+MX.N ⟨M.n,M.R,g',M.s⟩)from c1)]at hc
  rw[Qb c1]at h0;by_cases e:k=100+r
  .subst e
   revert hc;rw[Qb (by omega),Qb (by omega),Qb (by omega),Qb (by omega)];intro hc;cases hc
  .rw[Qb (by omega)];exact h0 cs hc
theorem AtM.same{H:QD}{g':Nat->Nat->Int}(h:AtM H b M)(hg:∀ i,i<M.N->∀ j,j<M.n->g' i j=M.g i j):AtM H b ⟨M.n,M.R,g',M.s⟩:=fun k cs hc=>by
 refine h k cs ?_;rw[zci]at hc ⊢;by_cases c1:100<=k/\k<100+M.N
 .rw[Qc (show 100<=k/\k<100+MX.N ⟨M.n,M.R,g',M.s⟩from c1)]at hc
  rw[Qc c1,<-hc];congr 2;exact Yk fun j hj=>(hg _ (by omega) j hj).symm
 .rw[Qb (show ¬(100<=k/\k<100+MX.N ⟨M.n,M.R,g',M.s⟩)from c1)]at hc
  rw[Qb c1,<-hc]
theorem AtM.perm{H:QD}{s':Nat->Nat}(h:AtM H b M):AtM (upd H (b+3) (some (ZS (b+100+M.R+M.n) 2 M.n s' M.n))) b ⟨M.n,M.R,M.g,s'⟩:=fun k cs hc=>by
 have h0:=h k cs;rw[zci]at hc h0;rw[zaE];by_cases e:k=3
 .subst e
  rw[Qc rfl];rw[Qb (by omega),Qb (by omega),Qb (by omega),Qb (by omega),Qc rfl]at hc;exact hc
 .rw[Qb (by omega)]
  refine h0 ?_;rw[<-hc,Qb e,Qb e]
def mkD(b:Nat)(M:MX)(D:List Nat):List Nat:=(mkL b M).map (·.1)++D
@[go_sem] theorem zDw:(mkE b M e).map (fun p=>p.1)=mkD b M (e.map (fun p=>p.1)):=by unfold mkE mkD;rw[waG]
theorem zse{D D':List Nat}(h:∀ x∈D,x∈D'){c:C}(hc:Z9 D c=true):Z9 D' c=true:=by
 have key:∀ b,D.contains b=true->D'.contains b=true:=fun b hb=>by rw[waE]at hb ⊢;exact h b hb
 cases c with
 |t x=>rfl
 |ptr b o=>exact key b hc
 |vec b s o n=>exact key b hc
 |fn f caps=>exact wai.2 fun p hp=>key _ (wai.1 hc p hp)
theorem zbv(hs:M.Ok):QT (mkD b M D) (mkE b M e)=QT (mkD b M D) e:=by
 unfold mkE mkD;rw[zgQ,znX b M hs D,wbo]
theorem zjp(h:i<M.N):(mkD b M D).contains (b+100+i)=true:=by
 rw[waE];exact zhc h
theorem zdS(h:i<4):(mkD b M D).contains (b+i)=true:=by
 rw[waE];exact zle h
@[go_sem] theorem mk_ct0:(mkD b M D).contains b=true:=zdS (i:=0) (by omega)
@[go_sem] theorem mk_ct1:(mkD b M D).contains (b+1)=true:=zdS (i:=1) (by omega)
@[go_sem] theorem mk_ct2:(mkD b M D).contains (b+2)=true:=zdS (i:=2) (by omega)
theorem zdT{t:Nat}(h:t<b):(mkD b M D).contains t=D.contains t:=by
 have e:(mkD b M D).contains t=((mkL b M).map (·.1)++D).contains t:=rfl;rw[e,waU,waE,waE,wan];exact⟨fun h2=>h2.elim (fun hm=>by have:=zfj hm;omega) id,.inr⟩
attribute [go_sem] false_and and_false wei Nat.add_right_inj wdj
theorem zjq{H:QD}(h:AtM H PIN M)(hn:∀ t,PIN<=t->QB (mkL PIN M) t=none->H t=none):∀ t,PIN<=t->H t=xM M t:=fun t ht=>by
 rw[zbQ];cases hx:QB (mkL PIN M) t with
 |none=>exact hn t ht hx
 |some cs =>
  have e:PIN+(t-PIN)=t:=by omega
  have h2:=h (t-PIN) cs;rw[e]at h2;exact h2 hx
end
theorem zbD{n:Nat}{g:Nat->Int}{i:Nat}(hi:i<n){q:Int}:(Q5 cJ (fnG n g)).take (i*2)++C.t (.lit (.bool (decide (q<0))))::C.t (eN (dig q.natAbs))::(Q5 cJ (fnG n g)).drop (i*2+2)=Q5 cJ (fnG n (fun v=>if v=i then q else g v)):=by
 have:=zgl (f:=cJ) (sz:=2) Ye hi (g:=g) (y:=q);rw[<-this];simp[Yh,cJ]
theorem zaB{n:Nat}{g:Nat->Int}:(Q5 cJ (fnG n g)).length=n*2:=zbm Ye
theorem zx0{b sz len n i k:Nat}{s:Nat->Nat}(h:i<n):(ZS b sz len s n).take i++C.vec (b+k) sz 0 len::(ZS b sz len s n).drop (i+1)=ZS b sz len (fun j=>if j=i then k else s j) n:=by
 rw[<-zut,wel,Qc (by rw[zfY];exact h)]
theorem upd2{H:QD}{t:Nat}{x y:Option (List C)}:upd (upd H t x) t y=upd H t y:=by
 funext b;rw[zaE,zaE];by_cases e:b=t
 .rw[Qc e,zaE,Qc e]
 .rw[Qb e,zaE,Qb e,Qb e]
theorem zuA{M M':MX}(hn:M'.n=M.n)(hR:M'.R=M.R){t k:Nat}{x:Option (List C)}(hk:k<4\/100<=k/\k<100+M.N)(h:QB (mkL PIN M') t=none):upd (QB (mkE 1000000 M [])) (1000000+k) x t=none:=by
 have h1:xM M t=none:=(zdc hn hR t).1 (by rw[zbQ];exact h);rw[zaE,Qb]
 .exact h1
 .intro e
  rw[zbQ,zbi]at h1;refine h1 ?_;rw[e];rcases hk with hk|hk
  .have:=zle (b:=PIN) (M:=M) (D:=[]) hk
   rw[wal]at this;exact this
  .have:=zhc (b:=PIN) (M:=M) (D:=[]) (i:=k-100) (by omega)
   rw[wal,show PIN+100+(k-100)=PIN+k by omega]at this;exact this
def Zz(M:MX)(t:Nat):Nat:=if t=0 then 0 else M.R
def Zv(M:MX)(t:Nat):Nat:=if t=0 then M.R else M.n
theorem zlH{M:MX}{t i:Nat}(ht:t<2)(hi:i<Zv M t):Zz M t+i<M.R+M.n:=by
 unfold Zz Zv at *
 split at hi<;>rename_i h<;>simp only[h,if_true,if_false]<;>omega
theorem zg5{M:MX}{t:Nat}(ht:t<2):Zz M t+Zv M t=if t=0 then M.R else M.R+M.n:=by unfold Zz Zv;split<;>omega
theorem zlj{M:MX}{t:Nat}(ht:t<2):([C.vec 1000001 1 0 M.R,C.vec 1000002 1 0 M.n].drop t).headD default = .vec (1000001+t) 1 0 (Zv M t):=by
 have:t=0\/t=1:=by omega
 rcases this with rfl|rfl<;>rfl
theorem zlk{M:MX}{t:Nat}{e:List (Nat×List C)}(ht:t<2):QB (mkE 1000000 M e) (1000001+t)=some (rowsC (1000100+Zz M t) 2 M.n (Zv M t)):=by
 have:t=0\/t=1:=by omega
 rcases this with rfl|rfl
 .exact mkK1
 .exact mkK2
def MX.col(M:MX)(f:(Nat->Int)->Nat->Int)(m:Nat):MX:=⟨M.n,M.R,fun q=>if q<m then f (M.g q)else M.g q,M.s⟩
def MX.swap(M:MX)(i j:Nat):MX:=⟨M.n,M.R,fun q=>if q<M.R+M.n then fun c=>M.g q (swN i j c)else M.g q,fun c=>M.s (swN i j c)⟩
theorem zll{M:MX}{f:(Nat->Int)->Nat->Int}{m:Nat}{g:Nat->Int}{H:QD}{b:Nat}(h:AtM H b (M.col f m))(hg:∀ c,c<M.n->g c=f (M.g m) c):AtM (upd H (b+100+m) (some (Q5 cJ (fnG M.n g)))) b (M.col f (m+1)):=by
 refine AtM.row (M:=M.col f m) h g fun i hi j hj=>?_
 show(if i<m+1 then f (M.g i)else M.g i) j=if i=m then g j else(if i<m then f (M.g i)else M.g i) j
 by_cases e:i=m
 .rw[Qc e,Qc (by omega),e,hg j hj]
 .rw[Qb e]
  by_cases e2:i<m
  .rw[Qc e2,Qc (by omega)]
  .rw[Qb e2,Qb (by omega)]
theorem za9{i t:Nat}(h:t<1000100):(1000100+i=t)=False:=Ql (by omega)
theorem za4{i t:Nat}(h:t<1000100):(t=1000100+i)=False:=Ql (by omega)
theorem MX.swap_ok{M:MX}{i j:Nat}(hM:M.Ok)(hi:i<M.n)(hj:j<M.n):(M.swap i j).Ok:=fun c hc=>hM _ (zcg hi hj hc)
theorem zx1(M:MX)(i j:Nat)(hM:M.Ok)(Xi:M.N<90000)(hi:i<M.n)(hj:j<M.n)(hne:i≠j) :
  Zf prog 173 [.one (.ptr PIN 0),litI .i64 i,litI .i64 j] (xM M) (.tup []) (xM (M.swap i j)):=by
 refine zaq QC call173 func173 rfl ntmps173 results173 (by simp) (by decide) ?_ ?_ ?_ ?_ ?_
 .exact zfk _
 .exact zdc rfl rfl
 .exact zfu _ (M.swap_ok hM hi hj)
 .trivial
 .have KH:M.R+M.n+M.n<90000:=Xi
  have XK:((i:Int)<(M.n:Int))=True:=Qf (by omega);have KS:((j:Int)<(M.n:Int))=True:=Qf (by omega);obtain⟨f,hf⟩:∃ f:(Nat->Int)->Nat->Int,f=fun g c=>g (swN i j c):=⟨_,rfl⟩
  have XT:M.col f 0=M:=by unfold MX.col;simp
  have xw:xM M=QB (mkE 1000000 (M.col f 0) []):=by rw[XT];rfl
  have hn:∀ m,(M.col f m).n=M.n:=fun m=>rfl
  have hR:∀ m,(M.col f m).R=M.R:=fun m=>rfl
  have YA:∀ m,(M.col f m).Ok:=fun m=>hM
  have XH:∀ m D e,QT (mkD 1000000 (M.col f m) D) (mkE 1000000 (M.col f m) e)=QT (mkD 1000000 (M.col f m) D) e:=fun m D e=>zbv (YA m)
  rw[xw];refine Q4 0 rfl ?_;simp only[go_sem,PIN,hn,hR];refine QK (fun t:Nat=>stL 70 [(0,.one (.ptr 1000000 0)),(1,litI .i64 i),(2,litI .i64 j),(18,.agg [.vec 1000001 1 0 M.R,.vec 1000002 1 0 M.n]),(19,litI .i64 t)]
   (mkE 1000000 (M.col f (if t=0 then 0 else if t=1 then M.R else M.R+M.n)) [])) (fun t=>t<=2) (fun t=>2-t) 0 ?_ (by decide) ?_
  .rw[Qc rfl]
   (refine Q7 rfl ?_ ?_ ?_ ?_<;>(try simp only[go_sem,XH])<;>(try simp only[Qy,Qv,Qu]))
  .intro t ht
   simp only[go_sem];refine QI (fun Yw=>?_) (fun YG=>?_)
   .have Yv:t<2:=by omega
    have hd:=zlj (M:=M) Yv;have ho:(if t=0 then 0 else if t=1 then M.R else M.R+M.n)=Zz M t:=by
     have:t=0\/t=1:=by omega
     rcases this with rfl|rfl<;>rfl
    rw[ho];simp only[go_sem,hd,Yw,wah]
    (repeat(refine Qg (by omega) ?_))
    refine QK (fun k:Nat=>stL 70 [(0,.one (.ptr 1000000 0)),(1,litI .i64 i),(2,litI .i64 j),(18,.agg [.vec 1000001 1 0 M.R,.vec 1000002 1 0 M.n]),(19,litI .i64 t),(22,.one (.vec (1000001+t) 1 0 (Zv M t))),(23,litI .i64 (Zv M t)),(24,litI .i64 k)]
     (mkE 1000000 (M.col f (Zz M t+k)) [])) (fun k=>k<=Zv M t) (fun k=>Zv M t-k) 0 ?_ (Qk _) ?_
    .rw[wap]
     have VK:∀ D,(mkD 1000000 (M.col f (Zz M t)) D).contains (1000001+t)=true:=fun D=>by rw[show 1000001+t=1000000+(1+t) by omega];exact zdS (by omega)
     (refine Q7 rfl ?_ ?_ ?_ ?_<;>(try simp only[go_sem,XH,VK])<;>(try simp only[Qy,Qv,Qu]))
    .intro k hk
     simp only[go_sem];refine QI (fun XR=>?_) (fun GB=>?_)
     .have YV:k<Zv M t:=by omega
      have hq:=zlH Yv YV;obtain⟨q,Ub⟩:∃ q,q=Zz M t+k:=⟨_,rfl⟩
      rw[<-Ub]at hq;have hb:∀ t',1000100+t'=1000000+100+t':=fun t'=>rfl
      have kh:=fun e=>zlk (M:=M.col f (Zz M t+k)) (t:=t) (e:=e) Yv
      have a3:(rowsC (1000100+Zz M t) 2 M.n (Zv M t)).drop k = .vec (1000100+q) 2 0 M.n::(rowsC (1000100+Zz M t) 2 M.n (Zv M t)).drop (k+1):=by
       rw[zcw YV,wbg,<-Ub]
      have e1:Zz (M.col f (Zz M t+k)) t=Zz M t:=rfl;have e2:Zv (M.col f (Zz M t+k)) t=Zv M t:=rfl;rw[e1,e2]at kh;rw[<-Ub]at kh ⊢;have Ga:(M.col f q).g q=M.g q:=Qb (wa8 _);have kf:∀ e,QB (mkE 1000000 (M.col f q) e) (1000100+q)=some (Q5 cJ (fnG M.n (M.g q))):=fun e=>by
       have:=zck (b:=1000000) (M:=M.col f q) (e:=e) (i:=q) (by show q<M.R+M.n+M.n;omega);rw[Ga]at this;exact this
      have c1:=Z1 (f:=cJ) (sz:=2) (g:=M.g q) Ye hi;have c2:=Z1 (f:=cJ) (sz:=2) (g:=M.g q) Ye hj;have YT:=zbj (b:=1000100+Zz M t) (sz:=2) (len:=M.n) (n:=Zv M t);have sd1:=zbD (n:=M.n) (g:=M.g q) hi (q:=M.g q j);have sd2:=zbD (n:=M.n) (g:=fun v=>if v=i then M.g q j else M.g q v) hj (q:=M.g q i);have cl:=fun g=>zaB (n:=M.n) (g:=g)
      simp only[go_sem,kh,a3,XR,hn]
      (repeat(refine Qg (by omega) ?_))
      refine Q4 0 rfl ?_;simp only[go_sem,kf,c1,c2,XK,KS,cl,sd1]
      (repeat(refine Qg (by omega) ?_))
      refine⟨k+1,YV,(by show Zv M t-(k+1)<Zv M t-k;omega),?_⟩;have VK:∀ m D,(mkD 1000000 (M.col f m) D).contains (1000001+t)=true:=fun m D=>by rw[show 1000001+t=1000000+(1+t) by omega];exact zdS (by omega)
      have XZ:∀ {H:QD},AtM H 1000000 (M.col f q)->AtM (upd H (1000100+q) (some (Q5 cJ (fnG M.n fun v=>if v=j then M.g q i else if v=i then M.g q j else M.g q v)))) 1000000 (M.col f (q+1)):=fun h =>
       zll (b:=1000000) h fun c hc=>by
        rw[hf];show _=M.g q (swN i j c);unfold swN;by_cases e1:c=i
        .rw[Qb (by omega),Qc e1,Qc e1]
        .rw[Qb e1,Qb e1]
         by_cases e2:c=j
         .rw[Qc e2,Qc e2]
         .rw[Qb e2,Qb e2]
      have eq1:Zz M t+(k+1)=q+1:=by omega
      (refine Q7 rfl ?_ ?_ ?_ ?_<;>(try simp only[go_sem,XH,VK,sd2,eq1,Q6 (n:=(k:Int)+1) (by omega) (by omega)])<;>(try simp only[Qy,Qv,Qu]))
      rw[upd2];exact XZ (by rw[za1];trivial)
     .obtain rfl:k=Zv M t:=by omega
      simp only[go_sem];refine⟨t+1,Yv,(by show 2-(t+1)<2-t;omega),?_⟩;have eo:(if t+1=0 then 0 else if t+1=1 then M.R else M.R+M.n)=Zz M t+Zv M t:=by
       rw[zg5 Yv];have:t=0\/t=1:=by omega
       rcases this with rfl|rfl<;>rfl
      rw[zg5 Yv]at eo
      (refine Q7 rfl ?_ ?_ ?_ ?_<;>(try simp only[go_sem,XH,Q6 (n:=(t:Int)+1) (by omega) (by omega)])<;>(try simp only[Qy,Qv,Qu]))
      rw[zg5 Yv,za1];trivial
   .obtain rfl:t=2:=by omega
    have a3:∀ s (i:Nat),i<M.n->(ZS (1000100+M.R+M.n) 2 M.n s M.n).drop i = .vec (1000100+M.R+M.n+s i) 2 0 M.n::(ZS (1000100+M.R+M.n) 2 M.n s M.n).drop (i+1):=fun s i h=>zi3 h
    have p1:=a3 M.s i hi;have p2:=a3 M.s j hj;have pl:=fun s=>zfY (b:=1000100+M.R+M.n) (sz:=2) (len:=M.n) (n:=M.n) (s:=s)
    have hs:∀ m,(M.col f m).s=M.s:=fun m=>rfl
    have ps:=fun s k v=>zx0 (b:=1000100+M.R+M.n) (sz:=2) (len:=M.n) (n:=M.n) (s:=s) (i:=k) (k:=v)
    rw[Qb (by decide),Qb (by decide)];simp only[go_sem];refine Q4 0 rfl ?_;simp only[go_sem,hn,hR,hs,p1,p2,pl,XK,KS,ps _ _ _ hi,ps _ _ _ hj]
    (repeat(refine Qg (by omega) ?_))
    have KC:(fun c=>if c=j then M.s i else if c=i then M.s j else M.s c)=fun c=>M.s (swN i j c):=by
     funext c;unfold swN;by_cases e1:c=i
     .rw[Qb (by omega),Qc e1,Qc e1]
     .rw[Qb e1,Qb e1]
      by_cases e2:c=j
      .rw[Qc e2,Qc e2]
      .rw[Qb e2,Qb e2]
    refine zgB (.inl rfl) ?_;simp only[go_sem];have Y5:=(AtM.perm (b:=1000000) (M:=M.col f (M.R+M.n)) (H:=QB (mkE 1000000 (M.col f (M.R+M.n)) [])) (s':=fun c=>M.s (swN i j c)) (by rw[za1];trivial))
    have eM:M.swap i j=⟨M.n,M.R,(M.col f (M.R+M.n)).g,fun c=>M.s (swN i j c)⟩:=by rw[hf];rfl
    rw[eM];have hall:=zjq Y5 fun t ht hx=>zuA (M:=M.col f (M.R+M.n)) (M':=⟨M.n,M.R,(M.col f (M.R+M.n)).g,fun c=>M.s (swN i j c)⟩) rfl rfl (k:=3) (by omega) hx
    intro b hb;refine wcQ ?_ (hall b hb);rw[zaE];by_cases e:b=1000003
    .rw[Qc e,Qc e,KC];rfl
    .rw[Qb e,Qb e,Qb e]
def zfB(i:Nat)(g:Nat->Int)(c:Nat):Int:=if c=i then -(g c)else g c
def MX.rw(M:MX)(q k:Nat)(fv:Nat->Int):MX:=⟨M.n,M.R,fun p=>if p=q then fun c=>if c<k then fv c else M.g p c else M.g p,M.s⟩
def MX.turn(M:MX)(i:Nat):MX:=⟨M.n,M.R,fun p=>if p<M.R+M.n then zfB i (M.g p)else if p=M.R+M.n+M.s i then fun c=>-(M.g p c)else M.g p,M.s⟩
theorem zlB{M:MX}{q:Nat}{fv:Nat->Int}:M.rw q 0 fv=M:=by
 unfold MX.rw;have:(fun p=>if p=q then(fun c=>if c<0 then fv c else M.g p c)else M.g p)=M.g:=by
  funext p;split
  .funext c;rw[Qb (by omega)]
  .rfl
 rw[this]
theorem zlY{M:MX}{q k:Nat}{fv:Nat->Int}{H:QD}{b:Nat}(h:AtM H b (M.rw q k fv)):AtM (upd H (b+100+q) (some (Q5 cJ (fnG M.n fun v=>if v=k then fv k else if v<k then fv v else M.g q v)))) b (M.rw q (k+1) fv):=by
 refine AtM.row (M:=M.rw q k fv) h _ fun i hi j hj=>?_
 show(if i=q then fun c=>if c<k+1 then fv c else M.g i c else M.g i) j=if i=q then _ else(if i=q then fun c=>if c<k then fv c else M.g i c else M.g i) j
 by_cases e:i=q
 .rw[Qc e,Qc e]
  show(if j<k+1 then fv j else M.g i j)=if j=k then fv k else if j<k then fv j else M.g q j
  by_cases e2:j=k
  .rw[Qc (by omega),Qc e2,e2]
  .rw[Qb e2]
   by_cases e3:j<k
   .rw[Qc (by omega),Qc e3]
   .rw[Qb (by omega),Qb e3,e]
 .rw[Qb e,Qb e,Qb e]
theorem zyw(M:MX)(i:Nat){K:Nat}(hK:K<=10000000000)(hM:M.Ok)(Xi:M.N<90000)(hi:i<M.n)(hB:∀ q c,q<M.R+M.n->c<M.n->lN (M.g q c)<=K)(EZ:∀ i c,i<M.n->c<M.n->lN (M.g (M.R+M.n+M.s i) c)<=K) :
  Zf prog 175 [.one (.ptr PIN 0),litI .i64 i] (xM M) (.tup []) (xM (M.turn i)):=by
 refine zaq QC call175 func175 rfl ntmps175 results175 (by simp) (by decide) ?_ ?_ ?_ ?_ ?_
 .exact zfk _
 .exact zdc rfl rfl
 .exact zfu _ hM
 .trivial
 .have KH:M.R+M.n+M.n<90000:=Xi
  have XK:((i:Int)<(M.n:Int))=True:=Qf (by omega);obtain⟨f,hf⟩:∃ f:(Nat->Int)->Nat->Int,f=zfB i:=⟨_,rfl⟩
  have XT:M.col f 0=M:=by unfold MX.col;simp
  have xw:xM M=QB (mkE 1000000 (M.col f 0) []):=by rw[XT];rfl
  have hn:∀ m,(M.col f m).n=M.n:=fun m=>rfl
  have hR:∀ m,(M.col f m).R=M.R:=fun m=>rfl
  have YA:∀ m,(M.col f m).Ok:=fun m=>hM
  have XH:∀ m D e,QT (mkD 1000000 (M.col f m) D) (mkE 1000000 (M.col f m) e)=QT (mkD 1000000 (M.col f m) D) e:=fun m D e=>zbv (YA m)
  rw[xw];refine Q4 0 rfl ?_;simp only[go_sem,PIN,hn,hR];refine QK (fun t:Nat=>stL 63 [(0,.one (.ptr 1000000 0)),(1,litI .i64 i),(18,.agg [.vec 1000001 1 0 M.R,.vec 1000002 1 0 M.n]),(19,litI .i64 t)]
   (mkE 1000000 (M.col f (if t=0 then 0 else if t=1 then M.R else M.R+M.n)) [])) (fun t=>t<=2) (fun t=>2-t) 0 ?_ (by decide) ?_
  .rw[Qc rfl]
   (refine Q7 rfl ?_ ?_ ?_ ?_<;>(try simp only[go_sem,XH])<;>(try simp only[Qy,Qv,Qu]))
  .intro t ht
   simp only[go_sem];refine QI (fun Yw=>?_) (fun YG=>?_)
   .have Yv:t<2:=by omega
    have hd:=zlj (M:=M) Yv;have ho:(if t=0 then 0 else if t=1 then M.R else M.R+M.n)=Zz M t:=by
     have:t=0\/t=1:=by omega
     rcases this with rfl|rfl<;>rfl
    rw[ho];simp only[go_sem,hd,Yw,wah]
    (repeat(refine Qg (by omega) ?_))
    refine QK (fun k:Nat=>stL 63 [(0,.one (.ptr 1000000 0)),(1,litI .i64 i),(18,.agg [.vec 1000001 1 0 M.R,.vec 1000002 1 0 M.n]),(19,litI .i64 t),(22,.one (.vec (1000001+t) 1 0 (Zv M t))),(23,litI .i64 (Zv M t)),(24,litI .i64 k)]
     (mkE 1000000 (M.col f (Zz M t+k)) [])) (fun k=>k<=Zv M t) (fun k=>Zv M t-k) 0 ?_ (Qk _) ?_
    .rw[wap]
     have VK:∀ D,(mkD 1000000 (M.col f (Zz M t)) D).contains (1000001+t)=true:=fun D=>by rw[show 1000001+t=1000000+(1+t) by omega];exact zdS (by omega)
     (refine Q7 rfl ?_ ?_ ?_ ?_<;>(try simp only[go_sem,XH,VK])<;>(try simp only[Qy,Qv,Qu]))
    .intro k hk
     simp only[go_sem];refine QI (fun XR=>?_) (fun GB=>?_)
     .have YV:k<Zv M t:=by omega
      have hq:=zlH Yv YV;obtain⟨q,Ub⟩:∃ q,q=Zz M t+k:=⟨_,rfl⟩
      rw[<-Ub]at hq;have kh:=fun e=>zlk (M:=M.col f (Zz M t+k)) (t:=t) (e:=e) Yv
      have a3:(rowsC (1000100+Zz M t) 2 M.n (Zv M t)).drop k = .vec (1000100+q) 2 0 M.n::(rowsC (1000100+Zz M t) 2 M.n (Zv M t)).drop (k+1):=by
       rw[zcw YV,wbg,<-Ub]
      have e1:Zz (M.col f (Zz M t+k)) t=Zz M t:=rfl;have e2:Zv (M.col f (Zz M t+k)) t=Zv M t:=rfl;rw[e1,e2]at kh;rw[<-Ub]at kh ⊢;have Ga:(M.col f q).g q=M.g q:=Qb (wa8 _);have kf:∀ e,QB (mkE 1000000 (M.col f q) e) (1000100+q)=some (Q5 cJ (fnG M.n (M.g q))):=fun e=>by
       have:=zck (b:=1000000) (M:=M.col f q) (e:=e) (i:=q) (by show q<M.R+M.n+M.n;omega);rw[Ga]at this;exact this
      have c1:=Z1 (f:=cJ) (sz:=2) (g:=M.g q) Ye hi;have YT:=zbj (b:=1000100+Zz M t) (sz:=2) (len:=M.n) (n:=Zv M t);have sd1:=zbD (n:=M.n) (g:=M.g q) hi (q:=-(M.g q i));have cl:=fun g=>zaB (n:=M.n) (g:=g)
      have WY:=hB q i hq hi;have o1:=zbO (M.g q i) (by omega);simp only[go_sem,kh,a3,XR,hn,kf,c1,XK]
      (repeat(refine Qg (by omega) ?_))
      ((repeat(refine Q4 0 rfl ?_;simp only[go_sem,kf,c1,XK,cl,sd1,Za]));refine Q3 (o1) rfl ?_;simp only[go_sem,kf,XK,cl,sd1];(repeat(refine Q4 0 rfl ?_;simp only[go_sem,kf,c1,XK,cl,sd1,Za])))
      (repeat(refine Qg (by omega) ?_))
      refine⟨k+1,YV,(by show Zv M t-(k+1)<Zv M t-k;omega),?_⟩;have VK:∀ m D,(mkD 1000000 (M.col f m) D).contains (1000001+t)=true:=fun m D=>by rw[show 1000001+t=1000000+(1+t) by omega];exact zdS (by omega)
      have XZ:∀ {H:QD},AtM H 1000000 (M.col f q)->AtM (upd H (1000100+q) (some (Q5 cJ (fnG M.n fun v=>if v=i then -(M.g q i)else M.g q v)))) 1000000 (M.col f (q+1)):=fun h =>
       zll (b:=1000000) h fun c hc=>by
        rw[hf];show _=if c=i then -(M.g q c)else M.g q c
        by_cases e1:c=i
        .rw[Qc e1,Qc e1,e1]
        .rw[Qb e1,Qb e1]
      have eq1:Zz M t+(k+1)=q+1:=by omega
      (refine Q7 rfl ?_ ?_ ?_ ?_<;>(try simp only[go_sem,XH,VK,eq1,Q6 (n:=(k:Int)+1) (by omega) (by omega)])<;>(try simp only[Qy,Qv,Qu]))
      exact XZ (by rw[za1];trivial)
     .obtain rfl:k=Zv M t:=by omega
      simp only[go_sem];refine⟨t+1,Yv,(by show 2-(t+1)<2-t;omega),?_⟩
      (refine Q7 rfl ?_ ?_ ?_ ?_<;>(try simp only[go_sem,XH,Q6 (n:=(t:Int)+1) (by omega) (by omega)])<;>(try simp only[Qy,Qv,Qu]))
      rw[zg5 Yv,za1];trivial
   .obtain rfl:t=2:=by omega
    rw[Qb (by decide),Qb (by decide)];obtain⟨q,Ub⟩:∃ q,q=M.R+M.n+M.s i:=⟨_,rfl⟩
    have Sa:=hM i hi;obtain⟨M1,VZ⟩:∃ M1,M1=M.col f (M.R+M.n):=⟨_,rfl⟩
    have n1:M1.n=M.n:=by rw[VZ];rfl
    have R1:M1.R=M.R:=by rw[VZ];rfl
    have s1:M1.s=M.s:=by rw[VZ];rfl
    have g1:M1.g q=M.g q:=by rw[VZ];exact Qb (by omega)
    obtain⟨fv,XO⟩:∃ fv:Nat->Int,fv=fun c=>-(M.g q c):=⟨_,rfl⟩
    have n2:∀ k,(M1.rw q k fv).n=M.n:=fun k=>n1
    have R2:∀ k,(M1.rw q k fv).R=M.R:=fun k=>R1
    have s2:∀ k,(M1.rw q k fv).s=M.s:=fun k=>s1
    have ok2:∀ k,(M1.rw q k fv).Ok:=fun k=>by
     intro c hc;rw[s2,n2];exact hM c (by rw[n2]at hc;exact hc)
    have Wu:∀ k D e,QT (mkD 1000000 (M1.rw q k fv) D) (mkE 1000000 (M1.rw q k fv) e)=QT (mkD 1000000 (M1.rw q k fv) D) e:=fun k D e=>zbv (ok2 k)
    have a3:(ZS (1000100+M.R+M.n) 2 M.n M.s M.n).drop i = .vec (1000100+q) 2 0 M.n::(ZS (1000100+M.R+M.n) 2 M.n M.s M.n).drop (i+1):=by
     rw[zi3 hi,show 1000100+M.R+M.n+M.s i=1000100+q by omega]
    have pl:=zfY (b:=1000100+M.R+M.n) (sz:=2) (len:=M.n) (n:=M.n) (s:=M.s);rw[<-VZ,<-zlB (M:=M1) (q:=q) (fv:=fv)];simp only[go_sem,n2,R2,s2,a3,XK]
    (repeat(refine Qg (by omega) ?_))
    refine QK (fun k:Nat=>stL 63 [(0,.one (.ptr 1000000 0)),(1,litI .i64 i),(44,.one (.vec (1000100+q) 2 0 M.n)),(45,litI .i64 M.n),(46,litI .i64 k)]
     (mkE 1000000 (M1.rw q k fv) [])) (fun k=>k<=M.n) (fun k=>M.n-k) 0 ?_ (Qk _) ?_
    .have VK:∀ D,(mkD 1000000 (M1.rw q 0 fv) D).contains (1000100+q)=true:=fun D=>zjp (by unfold MX.N;rw[n2,R2];omega)
     (refine Q7 rfl ?_ ?_ ?_ ?_<;>(try simp only[go_sem,Wu,VK])<;>(try simp only[Qy,Qv,Qu]))
    .intro k hk
     simp only[go_sem];refine QI (fun XR=>?_) (fun GB=>?_)
     .have YV:k<M.n:=by omega
      have Wc:(M1.rw q k fv).g q=fun c=>if c<k then fv c else M.g q c:=by
       show(if q=q then fun c=>if c<k then fv c else M1.g q c else M1.g q)=_;rw[Qc rfl,g1]
      have kf:∀ e,QB (mkE 1000000 (M1.rw q k fv) e) (1000100+q)=some (Q5 cJ (fnG M.n fun c=>if c<k then fv c else M.g q c)):=fun e=>by
       have:=zck (b:=1000000) (M:=M1.rw q k fv) (e:=e) (i:=q) (by unfold MX.N;rw[n2,R2];omega);rw[Wc,n2]at this;exact this
      have c1:=Z1 (f:=cJ) (sz:=2) (g:=fun c=>if c<k then fv c else M.g q c) Ye YV;rw[Qb (wa8 _)]at c1;have sd1:=zbD (n:=M.n) (g:=fun c=>if c<k then fv c else M.g q c) YV (q:=-(M.g q k));have cl:=fun g=>zaB (n:=M.n) (g:=g)
      have WY:lN (M.g q k)<=K:=by rw[Ub];exact EZ i k hi YV
      have o1:=zbO (M.g q k) (by omega);have ct4:∀ k D,(mkD 1000000 (M1.rw q k fv) D).contains (1000100+q)=true:=fun k D=>zjp (by unfold MX.N;rw[n2,R2];omega)
      simp only[go_sem,kf,c1,XR,Za]
      (repeat(refine Qg (by omega) ?_))
      refine Q4 0 rfl ?_;simp only[go_sem,n2,R2,s2,a3,XK,Za]
      (repeat(refine Qg (by omega) ?_))
      ((repeat(refine Q4 0 rfl ?_;simp only[go_sem,n2,R2,s2,a3,pl,XK,kf,XR,cl,Za,za9,za4]));refine Q3 (o1) rfl ?_;simp only[go_sem,kf,XR,cl,za9];(repeat(refine Q4 0 rfl ?_;simp only[go_sem,n2,R2,s2,a3,pl,XK,kf,XR,cl,Za,za9,za4])))
      (repeat(refine Qg (by omega) ?_))
      refine⟨k+1,YV,(by show M.n-(k+1)<M.n-k;omega),?_⟩;have XZ:∀ {H:QD},AtM H 1000000 (M1.rw q k fv)->AtM (upd H (1000100+q) (some (Q5 cJ (fnG M.n fun v=>if v=k then -(M.g q k)else if v<k then fv v else M.g q v)))) 1000000 (M1.rw q (k+1) fv):=fun h=>by
       have:=zlY (b:=1000000) h;rw[g1,n1,show fv k = -(M.g q k) by rw[XO]]at this;exact this
      (refine Q7 rfl ?_ ?_ ?_ ?_<;>(try simp only[go_sem,Wu,ct4,sd1,Q6 (n:=(k:Int)+1) (by omega) (by omega)])<;>(try simp only[Qy,Qv,Qu]))
      exact XZ (by rw[zaA (by omega),zaA (by omega),za1];trivial)
     .obtain rfl:k=M.n:=by omega
      simp only[go_sem];refine zgB (.inl rfl) ?_;have Y5:AtM (QB (mkE 1000000 (M1.rw q M.n fv) [])) 1000000 ⟨M.n,M.R,(M.turn i).g,M.s⟩:=by
       have:=AtM.same (b:=1000000) (M:=M1.rw q M.n fv) (g':=(M.turn i).g) (H:=QB (mkE 1000000 (M1.rw q M.n fv) [])) (by rw[za1];trivial) fun p hp c hc=>by
        rw[n2]at hc;show(if p<M.R+M.n then zfB i (M.g p)else if p=M.R+M.n+M.s i then fun c=>-(M.g p c)else M.g p) c=(if p=q then fun c=>if c<M.n then fv c else M1.g p c else M1.g p) c;have UF:M1.g p=if p<M.R+M.n then f (M.g p)else M.g p:=by rw[VZ];rfl
        by_cases e1:p<M.R+M.n
        .rw[Qc e1,Qb (by omega),UF,Qc e1,hf]
        .rw[Qb e1,<-Ub]
         by_cases e2:p=q
         .rw[Qc e2,Qc e2]
          show -(M.g p c)=if c<M.n then fv c else M1.g p c
          rw[Qc hc,XO,e2]
         .rw[Qb e2,Qb e2,UF,Qb e1]
       rw[n2,R2,s2]at this;exact this
      have hall:=zjq Y5 fun t ht hx=>(zdc (M:=M1.rw q M.n fv) (M':=⟨M.n,M.R,(M.turn i).g,M.s⟩) n1.symm R1.symm t).1 (by rw[zbQ];exact hx)
      exact hall
def zd3(i fr:Nat)(q:Int)(g:Nat->Int)(c:Nat):Int:=if c=fr then g c-q*g i else g c
def MX.less(M:MX)(i fr:Nat)(q:Int):MX:=⟨M.n,M.R,fun p=>if p<M.R+M.n then zd3 i fr q (M.g p)else if p=M.R+M.n+M.s i then fun c=>M.g p c+q*M.g (M.R+M.n+M.s fr) c else M.g p,M.s⟩
theorem zqZ(M:MX)(i fr:Nat)(z:Int){K:Nat}(hK:K<=10000000000)(hM:M.Ok)(Xi:M.N<90000)(hi:i<M.n)(VE:fr<M.n)(hne:M.s i≠M.s fr)(hz:lN z<=K)(hB:∀ q c,q<M.R+M.n->c<M.n->lN (M.g q c)<=K)(EZ:∀ i c,i<M.n->c<M.n->lN (M.g (M.R+M.n+M.s i) c)<=K) :
  Zf prog 174 [.one (.ptr PIN 0),litI .i64 i,litI .i64 fr,.agg ((cJ z).map .t)] (xM M) (.tup []) (xM (M.less i fr z)):=by
 refine zaq QC call174 func174 rfl ntmps174 results174 (by simp) (by decide) ?_ ?_ ?_ ?_ ?_
 .exact zfk _
 .exact zdc rfl rfl
 .exact zfu _ hM
 .trivial
 .have KH:M.R+M.n+M.n<90000:=Xi
  have XK:((i:Int)<(M.n:Int))=True:=Qf (by omega);have NI:((fr:Int)<(M.n:Int))=True:=Qf (by omega);have sg:=zdF z (by omega);obtain⟨f,hf⟩:∃ f:(Nat->Int)->Nat->Int,f=zd3 i fr z:=⟨_,rfl⟩
  have XT:M.col f 0=M:=by unfold MX.col;simp
  have xw:xM M=QB (mkE 1000000 (M.col f 0) []):=by rw[XT];rfl
  have hn:∀ m,(M.col f m).n=M.n:=fun m=>rfl
  have hR:∀ m,(M.col f m).R=M.R:=fun m=>rfl
  have YA:∀ m,(M.col f m).Ok:=fun m=>hM
  have XH:∀ m D e,QT (mkD 1000000 (M.col f m) D) (mkE 1000000 (M.col f m) e)=QT (mkD 1000000 (M.col f m) D) e:=fun m D e=>zbv (YA m)
  rw[xw];simp only[go_sem,PIN,Za];((repeat(refine Q4 0 rfl ?_;simp only[go_sem,PIN,Za,hn,hR]));refine Q3 (sg) rfl ?_;simp only[go_sem];(repeat(refine Q4 0 rfl ?_;simp only[go_sem,PIN,Za,hn,hR])));by_cases Fb:z=0
  .have Uz:(z.sign=0)=True:=Qf (wb6.2 Fb)
   simp only[go_sem,Uz];refine zgB (.inr rfl) ?_;simp only[go_sem];have Y5:AtM (QB (mkE 1000000 M [])) 1000000 ⟨M.n,M.R,(M.less i fr z).g,M.s⟩:=AtM.same (b:=1000000) (by rw[za1];trivial) fun p hp c hc=>by
    show(if p<M.R+M.n then zd3 i fr z (M.g p)else if p=M.R+M.n+M.s i then fun c=>M.g p c+z*M.g (M.R+M.n+M.s fr) c else M.g p) c=M.g p c;rw[Fb];split
    .unfold zd3;split<;>omega
    .split
     .show M.g p c+0*_=_;omega
     .rfl
   have hall:=zjq Y5 fun t ht hx=>(zdc (M:=M) (M':=⟨M.n,M.R,(M.less i fr z).g,M.s⟩) rfl rfl t).1 (by rw[zbQ];exact hx)
   intro b hb;rw[Qb (by have:PIN=1000000:=rfl;omega),XT];exact hall b hb
  have Uz:(z.sign=0)=False:=Ql (fun h=>Fb (wb6.1 h));simp only[go_sem,Uz];refine Q4 0 rfl ?_;simp only[go_sem,hn,hR];refine QK (fun t:Nat=>stL 88 [(0,.one (.ptr 1000000 0)),(1,litI .i64 i),(2,litI .i64 fr),(7,.one (.ptr 7 0)),(25,.agg [.vec 1000001 1 0 M.R,.vec 1000002 1 0 M.n]),(26,litI .i64 t)]
   (mkE 1000000 (M.col f (if t=0 then 0 else if t=1 then M.R else M.R+M.n)) [(7,(cJ z).map .t)])) (fun t=>t<=2) (fun t=>2-t) 0 ?_ (by decide) ?_
  .rw[Qc rfl]
   (refine Q7 rfl ?_ ?_ ?_ ?_<;>(try simp only[go_sem,Za,zdT,zaA,XH])<;>(try simp only[Qy,Qv,Qw,Qu]))
  .intro t ht
   simp only[go_sem];refine QI (fun Yw=>?_) (fun YG=>?_)
   .have Yv:t<2:=by omega
    have hd:=zlj (M:=M) Yv;have ho:(if t=0 then 0 else if t=1 then M.R else M.R+M.n)=Zz M t:=by
     have:t=0\/t=1:=by omega
     rcases this with rfl|rfl<;>rfl
    rw[ho];simp only[go_sem,hd,Yw,wah]
    (repeat(refine Qg (by omega) ?_))
    refine QK (fun k:Nat=>stL 88 [(0,.one (.ptr 1000000 0)),(1,litI .i64 i),(2,litI .i64 fr),(7,.one (.ptr 7 0)),(25,.agg [.vec 1000001 1 0 M.R,.vec 1000002 1 0 M.n]),(26,litI .i64 t),(29,.one (.vec (1000001+t) 1 0 (Zv M t))),(30,litI .i64 (Zv M t)),(31,litI .i64 k)]
     (mkE 1000000 (M.col f (Zz M t+k)) [(7,(cJ z).map .t)])) (fun k=>k<=Zv M t) (fun k=>Zv M t-k) 0 ?_ (Qk _) ?_
    .rw[wap]
     have VK:∀ D,(mkD 1000000 (M.col f (Zz M t)) D).contains (1000001+t)=true:=fun D=>by rw[show 1000001+t=1000000+(1+t) by omega];exact zdS (by omega)
     (refine Q7 rfl ?_ ?_ ?_ ?_<;>(try simp only[go_sem,Za,zdT,XH,VK])<;>(try simp only[Qy,Qv,Qw,Qu]))
    .intro k hk
     simp only[go_sem];refine QI (fun XR=>?_) (fun GB=>?_)
     .have YV:k<Zv M t:=by omega
      have hq:=zlH Yv YV;obtain⟨q,Ub⟩:∃ q,q=Zz M t+k:=⟨_,rfl⟩
      rw[<-Ub]at hq;have kh:=fun e=>zlk (M:=M.col f (Zz M t+k)) (t:=t) (e:=e) Yv
      have a3:(rowsC (1000100+Zz M t) 2 M.n (Zv M t)).drop k = .vec (1000100+q) 2 0 M.n::(rowsC (1000100+Zz M t) 2 M.n (Zv M t)).drop (k+1):=by
       rw[zcw YV,wbg,<-Ub]
      have e1:Zz (M.col f (Zz M t+k)) t=Zz M t:=rfl;have e2:Zv (M.col f (Zz M t+k)) t=Zv M t:=rfl;rw[e1,e2]at kh;rw[<-Ub]at kh ⊢;have Ga:(M.col f q).g q=M.g q:=Qb (wa8 _);have kf:∀ e,QB (mkE 1000000 (M.col f q) e) (1000100+q)=some (Q5 cJ (fnG M.n (M.g q))):=fun e=>by
       have:=zck (b:=1000000) (M:=M.col f q) (e:=e) (i:=q) (by show q<M.R+M.n+M.n;omega);rw[Ga]at this;exact this
      have c1:=Z1 (f:=cJ) (sz:=2) (g:=M.g q) Ye hi;have c2:=Z1 (f:=cJ) (sz:=2) (g:=M.g q) Ye VE;have YT:=zbj (b:=1000100+Zz M t) (sz:=2) (len:=M.n) (n:=Zv M t);have sd1:=zbD (n:=M.n) (g:=M.g q) VE (q:=M.g q fr-z*M.g q i);have cl:=fun g=>zaB (n:=M.n) (g:=g)
      have WY:=hB q i hq hi;have Sg:=hB q fr hq VE;have RZ:=ZX z (M.g q i);have o1:=zdJ z (M.g q i) (by omega) (by omega);have o2:=zep (M.g q fr) (z*M.g q i) (by omega) (by omega);simp only[go_sem,kh,a3,XR,hn]
      (repeat(refine Qg (by omega) ?_))
      refine Q4 0 rfl ?_;simp only[go_sem,kf,c1,c2,XK,NI,Za]
      (repeat(refine Qg (by omega) ?_))
      ((repeat(refine Q4 0 rfl ?_;simp only[go_sem,kf,c1,c2,XK,NI,cl,sd1,Za]));refine Q3 (o1) rfl ?_;simp only[go_sem];(repeat(refine Q4 0 rfl ?_;simp only[go_sem,kf,c1,c2,XK,NI,cl,sd1,Za]));refine Q3 (o2) rfl ?_;simp only[go_sem,kf,NI,cl,sd1];(repeat(refine Q4 0 rfl ?_;simp only[go_sem,kf,c1,c2,XK,NI,cl,sd1,Za])))
      (repeat(refine Qg (by omega) ?_))
      refine⟨k+1,YV,(by show Zv M t-(k+1)<Zv M t-k;omega),?_⟩;have VK:∀ m D,(mkD 1000000 (M.col f m) D).contains (1000001+t)=true:=fun m D=>by rw[show 1000001+t=1000000+(1+t) by omega];exact zdS (by omega)
      have XZ:∀ {H:QD},AtM H 1000000 (M.col f q)->AtM (upd H (1000100+q) (some (Q5 cJ (fnG M.n fun v=>if v=fr then M.g q fr-z*M.g q i else M.g q v)))) 1000000 (M.col f (q+1)):=fun h =>
       zll (b:=1000000) h fun c hc=>by
        rw[hf];show _=if c=fr then M.g q c-z*M.g q i else M.g q c
        by_cases e1:c=fr
        .rw[Qc e1,Qc e1,e1]
        .rw[Qb e1,Qb e1]
      have eq1:Zz M t+(k+1)=q+1:=by omega
      (refine Q7 rfl ?_ ?_ ?_ ?_<;>(try simp only[go_sem,Za,zdT,XH,VK,eq1,za4,Q6 (n:=(k:Int)+1) (by omega) (by omega)])<;>(try simp only[Qy,Qv,Qw,Qu]))
      exact XZ (by rw[za1];trivial)
     .obtain rfl:k=Zv M t:=by omega
      simp only[go_sem];refine⟨t+1,Yv,(by show 2-(t+1)<2-t;omega),?_⟩
      (refine Q7 rfl ?_ ?_ ?_ ?_<;>(try simp only[go_sem,Za,zdT,XH,Q6 (n:=(t:Int)+1) (by omega) (by omega)])<;>(try simp only[Qy,Qv,Qw,Qu]))
      rw[zg5 Yv,za1];trivial
   .obtain rfl:t=2:=by omega
    rw[Qb (by decide),Qb (by decide)];obtain⟨q,Ub⟩:∃ q,q=M.R+M.n+M.s i:=⟨_,rfl⟩
    have Sa:=hM i hi;have Th:=hM fr VE;obtain⟨qf,MJ⟩:∃ q,q=M.R+M.n+M.s fr:=⟨_,rfl⟩
    obtain⟨M1,VZ⟩:∃ M1,M1=M.col f (M.R+M.n):=⟨_,rfl⟩
    have n1:M1.n=M.n:=by rw[VZ];rfl
    have R1:M1.R=M.R:=by rw[VZ];rfl
    have s1:M1.s=M.s:=by rw[VZ];rfl
    have g1:M1.g q=M.g q:=by rw[VZ];exact Qb (by omega)
    have gf:M1.g qf=M.g qf:=by rw[VZ];exact Qb (by omega)
    obtain⟨fv,XO⟩:∃ fv:Nat->Int,fv=fun c=>M.g q c+z*M.g qf c:=⟨_,rfl⟩
    have n2:∀ k,(M1.rw q k fv).n=M.n:=fun k=>n1
    have R2:∀ k,(M1.rw q k fv).R=M.R:=fun k=>R1
    have s2:∀ k,(M1.rw q k fv).s=M.s:=fun k=>s1
    have ok2:∀ k,(M1.rw q k fv).Ok:=fun k=>by
     intro c hc;rw[s2,n2];exact hM c (by rw[n2]at hc;exact hc)
    have Wu:∀ k D e,QT (mkD 1000000 (M1.rw q k fv) D) (mkE 1000000 (M1.rw q k fv) e)=QT (mkD 1000000 (M1.rw q k fv) D) e:=fun k D e=>zbv (ok2 k)
    have a3:(ZS (1000100+M.R+M.n) 2 M.n M.s M.n).drop i = .vec (1000100+q) 2 0 M.n::(ZS (1000100+M.R+M.n) 2 M.n M.s M.n).drop (i+1):=by
     rw[zi3 hi,show 1000100+M.R+M.n+M.s i=1000100+q by omega]
    have a4:(ZS (1000100+M.R+M.n) 2 M.n M.s M.n).drop fr = .vec (1000100+qf) 2 0 M.n::(ZS (1000100+M.R+M.n) 2 M.n M.s M.n).drop (fr+1):=by
     rw[zi3 VE,show 1000100+M.R+M.n+M.s fr=1000100+qf by omega]
    have pl:=zfY (b:=1000100+M.R+M.n) (sz:=2) (len:=M.n) (n:=M.n) (s:=M.s);rw[<-VZ,<-zlB (M:=M1) (q:=q) (fv:=fv)];simp only[go_sem,n2,R2,s2,a4,NI]
    (repeat(refine Qg (by omega) ?_))
    refine QK (fun k:Nat=>stL 88 [(0,.one (.ptr 1000000 0)),(1,litI .i64 i),(7,.one (.ptr 7 0)),(57,.one (.vec (1000100+qf) 2 0 M.n)),(58,litI .i64 M.n),(59,litI .i64 k)]
     (mkE 1000000 (M1.rw q k fv) [(7,(cJ z).map .t)])) (fun k=>k<=M.n) (fun k=>M.n-k) 0 ?_ (Qk _) ?_
    .have VK:∀ D,(mkD 1000000 (M1.rw q 0 fv) D).contains (1000100+qf)=true:=fun D=>zjp (by unfold MX.N;rw[n2,R2];omega)
     (refine Q7 rfl ?_ ?_ ?_ ?_<;>(try simp only[go_sem,Za,zdT,Wu,VK])<;>(try simp only[Qy,Qv,Qw,Qu]))
    .intro k hk
     simp only[go_sem];refine QI (fun XR=>?_) (fun GB=>?_)
     .have YV:k<M.n:=by omega
      have Wc:(M1.rw q k fv).g q=fun c=>if c<k then fv c else M.g q c:=by
       show(if q=q then fun c=>if c<k then fv c else M1.g q c else M1.g q)=_;rw[Qc rfl,g1]
      have kf:∀ e,QB (mkE 1000000 (M1.rw q k fv) e) (1000100+q)=some (Q5 cJ (fnG M.n fun c=>if c<k then fv c else M.g q c)):=fun e=>by
       have:=zck (b:=1000000) (M:=M1.rw q k fv) (e:=e) (i:=q) (by unfold MX.N;rw[n2,R2];omega);rw[Wc,n2]at this;exact this
      have Sh:(M1.rw q k fv).g qf=M.g qf:=by
       show(if qf=q then fun c=>if c<k then fv c else M1.g qf c else M1.g qf)=_;rw[Qb (by omega),gf]
      have kff:∀ e,QB (mkE 1000000 (M1.rw q k fv) e) (1000100+qf)=some (Q5 cJ (fnG M.n (M.g qf))):=fun e=>by
       have:=zck (b:=1000000) (M:=M1.rw q k fv) (e:=e) (i:=qf) (by unfold MX.N;rw[n2,R2];omega);rw[Sh,n2]at this;exact this
      have c2:=Z1 (f:=cJ) (sz:=2) (g:=M.g qf) Ye YV;have c1:=Z1 (f:=cJ) (sz:=2) (g:=fun c=>if c<k then fv c else M.g q c) Ye YV;rw[Qb (wa8 _)]at c1;have sd1:=zbD (n:=M.n) (g:=fun c=>if c<k then fv c else M.g q c) YV (q:=M.g q k+z*M.g qf k);have cl:=fun g=>zaB (n:=M.n) (g:=g)
      have WY:lN (M.g q k)<=K:=by rw[Ub];exact EZ i k hi YV
      have Sg:lN (M.g qf k)<=K:=by rw[MJ];exact EZ fr k VE YV
      have RZ:=ZX z (M.g qf k);have o1:=zdJ z (M.g qf k) (by omega) (by omega);have o2:=zc7 (M.g q k) (z*M.g qf k) (by omega) (by omega);have ct4:∀ k D,(mkD 1000000 (M1.rw q k fv) D).contains (1000100+qf)=true:=fun k D=>zjp (by unfold MX.N;rw[n2,R2];omega)
      simp only[go_sem,kff,c2,XR,Za]
      (repeat(refine Qg (by omega) ?_))
      refine Q4 0 rfl ?_;simp only[go_sem,n2,R2,s2,a3,XK,kf,c1,XR,Za,za9]
      (repeat(refine Qg (by omega) ?_))
      ((repeat(refine Q4 0 rfl ?_;simp only[go_sem,n2,R2,s2,a3,pl,XK,kf,c1,XR,cl,Za,za9,za4]));refine Q3 (o1) rfl ?_;simp only[go_sem];(repeat(refine Q4 0 rfl ?_;simp only[go_sem,n2,R2,s2,a3,pl,XK,kf,c1,XR,cl,Za,za9,za4]));refine Q3 (o2) rfl ?_;simp only[go_sem,kf,XR,cl,za9];(repeat(refine Q4 0 rfl ?_;simp only[go_sem,n2,R2,s2,a3,pl,XK,kf,c1,XR,cl,Za,za9,za4])))
      (repeat(refine Qg (by omega) ?_))
      refine⟨k+1,YV,(by show M.n-(k+1)<M.n-k;omega),?_⟩;have XZ:∀ {H:QD},AtM H 1000000 (M1.rw q k fv)->AtM (upd H (1000100+q) (some (Q5 cJ (fnG M.n fun v=>if v=k then M.g q k+z*M.g qf k else if v<k then fv v else M.g q v)))) 1000000 (M1.rw q (k+1) fv):=fun h=>by
       have:=zlY (b:=1000000) h;rw[g1,n1,show fv k=M.g q k+z*M.g qf k by rw[XO]]at this;exact this
      (refine Q7 rfl ?_ ?_ ?_ ?_<;>(try simp only[go_sem,Za,zdT,Wu,ct4,sd1,za4,Q6 (n:=(k:Int)+1) (by omega) (by omega)])<;>(try simp only[Qy,Qv,Qw,Qu]))
      exact XZ (by rw[zaA (by omega),zaA (by omega),za1];trivial)
     .obtain rfl:k=M.n:=by omega
      simp only[go_sem];refine zgB (.inl rfl) ?_;have Y5:AtM (QB (mkE 1000000 (M1.rw q M.n fv) [])) 1000000 ⟨M.n,M.R,(M.less i fr z).g,M.s⟩:=by
       have:=AtM.same (b:=1000000) (M:=M1.rw q M.n fv) (g':=(M.less i fr z).g) (H:=QB (mkE 1000000 (M1.rw q M.n fv) [])) (by rw[za1];trivial) fun p hp c hc=>by
        rw[n2]at hc;show(if p<M.R+M.n then zd3 i fr z (M.g p)else if p=M.R+M.n+M.s i then fun c=>M.g p c+z*M.g (M.R+M.n+M.s fr) c else M.g p) c=(if p=q then fun c=>if c<M.n then fv c else M1.g p c else M1.g p) c;have UF:M1.g p=if p<M.R+M.n then f (M.g p)else M.g p:=by rw[VZ];rfl
        by_cases e1:p<M.R+M.n
        .rw[Qc e1,Qb (by omega),UF,Qc e1,hf]
        .rw[Qb e1,<-Ub]
         by_cases e2:p=q
         .rw[Qc e2,Qc e2]
          show M.g p c+z*M.g (M.R+M.n+M.s fr) c=if c<M.n then fv c else M1.g p c
          rw[Qc hc,XO,e2,<-MJ]
         .rw[Qb e2,Qb e2,UF,Qb e1]
       rw[n2,R2,s2]at this;exact this
      have hall:=zjq Y5 fun t ht hx=>(zdc (M:=M1.rw q M.n fv) (M':=⟨M.n,M.R,(M.less i fr z).g,M.s⟩) n1.symm R1.symm t).1 (by rw[zbQ];exact hx)
      intro b hb;refine wcQ ?_ (hall b hb);show QB (mkL 1000000 _++[(7,(cJ z).map .t)]) b=QB (mkL 1000000 _++[]) b;rw[zc2,zc2];have:PIN=1000000:=rfl;congr 1;exact Qb (by omega)
def zhZ:Option Nat->Int
 |none=>-1
 |some r=>r
@[go_sem] theorem zA4:zhZ none = -1:=rfl
@[go_sem] theorem zA5{r:Nat}:zhZ (some r)=(r:Int):=rfl
theorem zpd{f:Nat->Int}{k m p:Nat}(h:(Z8 f k m).1=some p):k<=p/\p<k+m:=by
 have:=zbK f k m;rw[h]at this;exact⟨this.2.1,this.2.2.1⟩
theorem zxR{n i:Nat}{g:Nat->Int}(hi:i<n):(Q5 cJ (fnG n g)).drop (i*2+1)=C.t (eN (dig (g i).natAbs))::Q5 cJ ((fnG n g).drop (i+1)):=by
 rw[<-wcx,Z1 Ye hi];rfl
theorem zlf{f:Nat->Int}{k:Nat}:∀ m,(Z8 f k m).2<=m
 |0=>Qd _
 |m+1=>by
  have:=zlf (f:=f) (k:=k) m;rw[Z8];split
  .omega
  .show(Z8 f k m).2+1<=m+1;omega
theorem zwk(M:MX)(r k:Nat){K:Nat}(hK:K<=10000000000)(hM:M.Ok)(Xi:M.N<90000)(hr:r<M.R)(hk:k<=M.n)(hB:∀ c,c<M.n->lN (M.g r c)<=K) :
  Zf prog 172 [.one (.ptr PIN 0),litI .i64 r,litI .i64 k] (xM M) (.tup [litI .i64 (zhZ (Z8 (M.g r) k (M.n-k)).1),litI .i64 (Z8 (M.g r) k (M.n-k)).2]) (xM M):=by
 refine zaq QC call172 func172 rfl ntmps172 results172 (by simp) (by decide) ?_ ?_ ?_ ?_ ?_
 .exact zfk _
 .exact fun b=>wbn
 .exact zfu _ hM
 .exact⟨trivial,trivial,trivial⟩
 .have KH:M.R+M.n+M.n<90000:=Xi
  have Xh:((r:Int)<(M.R:Int))=True:=Qf (by omega);have xw:xM M=QB (mkE 1000000 M []):=rfl;have XH:∀ D e,QT (mkD 1000000 M D) (mkE 1000000 M e)=QT (mkD 1000000 M D) e:=fun D e=>zbv hM
  have a3:(rowsC 1000100 2 M.n M.R).drop r = .vec (1000100+r) 2 0 M.n::(rowsC 1000100 2 M.n M.R).drop (r+1):=zcw hr;have YT:=zbj (b:=1000100) (sz:=2) (len:=M.n) (n:=M.R);have kf:∀ e,QB (mkE 1000000 M e) (1000100+r)=some (Q5 cJ (fnG M.n (M.g r))):=fun e =>
   zck (b:=1000000) (M:=M) (e:=e) (i:=r) (by unfold MX.N;omega)
  have cl:=fun g=>zaB (n:=M.n) (g:=g)
  rw[xw];simp only[go_sem,PIN];refine QK (fun j:Nat=>stL 60 [(0,.one (.ptr 1000000 0)),(1,litI .i64 r),(8,litI .i64 (zhZ (Z8 (M.g r) k j).1)),(9,litI .i64 (Z8 (M.g r) k j).2),(10,litI .i64 (k+j:Nat))]
   (mkE 1000000 M [])) (fun j=>k+j<=M.n) (fun j=>M.n-(k+j)) 0 ?_ hk ?_
  ·(refine Q7 rfl ?_ ?_ ?_ ?_<;>(try simp only[go_sem,XH])<;>(try simp only[Qy,Qv,Qs,Qx]))
   exact⟨.inl rfl,.inl rfl⟩
  .intro j hj
   simp only[go_sem];refine QI (fun Yw=>?_) (fun YG=>?_)
   .have Yv:k+j<M.n:=by omega
    have Vy:(((k+j:Nat):Int)<(M.n:Int))=True:=Qf (by omega);obtain⟨q,hq⟩:∃ q,q=k+j:=⟨_,rfl⟩
    have Yx:Z8 (M.g r) k (j+1)=if M.g r q=0 then Z8 (M.g r) k j else(match (Z8 (M.g r) k j).1 with|none=>some q|some p=>if(M.g r q).natAbs<(M.g r p).natAbs then some q else some p,(Z8 (M.g r) k j).2+1):=by rw[hq];rfl
    have YZ:=zlf (f:=M.g r) (k:=k) j;have G8:∀ p,(Z8 (M.g r) k j).1=some p->p<M.n:=fun p h=>by have:=zpd h;omega
    have XI:((k+(j+1):Nat):Int)=(q:Int)+1:=by omega
    have NU:M.n-(k+(j+1))<M.n-(k+j):=by omega
    have X6:k+(j+1)<=M.n:=by omega
    rw[<-hq]at Vy Yv ⊢;have c1:=Z1 (f:=cJ) (sz:=2) (g:=M.g r) Ye Yv;generalize Z8 (M.g r) k j=o at *
    obtain⟨oo,on⟩:=o;have KI:(((dig (M.g r q).natAbs).length:Int)=0)=(M.g r q=0):=by
     refine propext ⟨fun h=>?_,fun h=>by rw[h];exact(by simp[Zi]:((dig (0:Int).natAbs).length:Int)=0)⟩;have h1:dig (M.g r q).natAbs=[]:=wbd.1 (by omega);have h2:=za5 (M.g r q).natAbs;rw[h1]at h2;have:(M.g r q).natAbs=0:=h2.symm;omega
    simp only[go_sem,a3,Xh,kf,c1,Vy,KI,Za]
    (repeat(refine Qg (by omega) ?_))
    by_cases c0:M.g r q=0
    .have c0':(M.g r q=0)=True:=Qf c0
     rw[Qc c0]at Yx;simp only[go_sem,c0'];refine⟨j+1,X6,NU,?_⟩
     (refine Q7 rfl ?_ ?_ ?_ ?_<;>(try simp only[go_sem,XH,zaA,Yx,XI,Q6 (n:=(q:Int)+1) (by omega) (by omega)])<;>(try simp))
    .have c0':(M.g r q=0)=False:=Ql c0
     rw[Qb c0]at Yx;have hw:IntKind.i64.wrap ((on:Int)+1)=((on+1:Nat):Int):=by rw[Q6 (by omega) (by omega)];omega
     simp only[go_sem,c0',hw];cases oo with
     |none =>
      refine Q4 0 rfl ?_;simp only[go_sem];refine⟨j+1,X6,NU,?_⟩
      (refine Q7 rfl ?_ ?_ ?_ ?_<;>(try simp only[go_sem,XH,zaA,Yx,XI,Q6 (n:=(q:Int)+1) (by omega) (by omega)])<;>(try simp))
     |some p =>
      have hp:=G8 p rfl;have En:((p:Int)<(M.n:Int))=True:=Qf (by omega);have KJ:((p:Int)<0)=False:=Ql (by omega);have c2:=zxR (n:=M.n) (g:=M.g r) hp;have WY:=hB q Yv;have Wn:=hB p hp;have o1:=zfT (dig (M.g r q).natAbs) (dig (M.g r p).natAbs) (by unfold lN at WY;omega) (by unfold lN at Wn;omega);rw[Zx,Zx]at o1;have Lz:QY ((M.g r q).natAbs:Int) ((M.g r p).natAbs:Int)<0↔(M.g r q).natAbs<(M.g r p).natAbs:=by
       unfold QY;split<;>(try split)<;>omega
      generalize QY ((M.g r q).natAbs:Int) ((M.g r p).natAbs:Int)=cm at *
      refine Q4 0 rfl ?_;simp only[go_sem,KJ,a3,Xh,kf,c2,En,Za,za9]
      (repeat(refine Qg (by omega) ?_))
      ((repeat(refine Q4 0 rfl ?_;simp only[go_sem,KJ,a3,Xh,kf,c2,En,cl,YT,Za,za9,za4]));refine Q3 (o1) rfl ?_;simp only[go_sem];(repeat(refine Q4 0 rfl ?_;simp only[go_sem,KJ,a3,Xh,kf,c2,En,cl,YT,Za,za9,za4])));by_cases c3:(M.g r q).natAbs<(M.g r p).natAbs
      .have c3':(cm<0)=True:=Qf (Lz.2 c3)
       have Yx:Z8 (M.g r) k (j+1)=(some q,on+1):=by rw[Yx];show(if _ then _ else _,_)=_;rw[Qc c3]
       simp only[go_sem,c3'];refine⟨j+1,X6,NU,?_⟩
       (refine Q7 rfl ?_ ?_ ?_ ?_<;>(try simp only[go_sem,XH,zaA,Yx,XI,Q6 (n:=(q:Int)+1) (by omega) (by omega)])<;>(try simp))
      .have c3':(cm<0)=False:=Ql (fun h=>c3 (Lz.1 h))
       have Yx:Z8 (M.g r) k (j+1)=(some p,on+1):=by rw[Yx];show(if _ then _ else _,_)=_;rw[Qb c3]
       simp only[go_sem,c3'];refine⟨j+1,X6,NU,?_⟩
       (refine Q7 rfl ?_ ?_ ?_ ?_<;>(try simp only[go_sem,XH,zaA,Yx,XI,Q6 (n:=(q:Int)+1) (by omega) (by omega)])<;>(try simp))
   .obtain rfl:j=M.n-k:=by omega
    simp only[go_sem];refine⟨.inr rfl,fun x hx=>?_,rfl,fun _ _=>rfl⟩;rcases wab.1 hx with rfl|hx
    .trivial
    .obtain rfl:=Qr.1 hx;trivial
structure Rep(M:MX)(S:HX):Prop where
 en:M.n=S.n
 eR:M.R=S.R
 h:∀ r c,r<M.R->c<M.n->M.g r c=S.h r c
 u:∀ r c,r<M.n->c<M.n->M.g (M.R+r) c=S.u r c
 v:∀ r c,r<M.n->c<M.n->M.g (M.R+M.n+M.s r) c=S.v r c
 ok:M.Ok
 inj:∀ i j,i<M.n->j<M.n->M.s i=M.s j->i=j
section
variable {M:MX} {S:HX} {i j k r p:Nat} {z:Int}
theorem Rep.swap(hr:Rep M S)(hi:i<M.n)(hj:j<M.n):Rep (M.swap i j) (S.swap i j) where
 en:=hr.en
 eR:=hr.eR
 h:=fun r c h1 h2=>by
  have h1:r<M.R:=h1;show(if r<M.R+M.n then fun c=>M.g r (swN i j c)else M.g r) c=S.h r (swN i j c);rw[Qc (by omega)];exact hr.h r _ h1 (zcg hi hj h2)
 u:=fun r c h1 h2=>by
  have h1:r<M.n:=h1;show(if M.R+r<M.R+M.n then fun c=>M.g (M.R+r) (swN i j c)else M.g (M.R+r)) c=S.u r (swN i j c);rw[Qc (by omega)];exact hr.u r _ h1 (zcg hi hj h2)
 v:=fun r c h1 h2=>by
  show(if M.R+M.n+M.s (swN i j r)<M.R+M.n then _ else M.g (M.R+M.n+M.s (swN i j r))) c=S.v (swN i j r) c;rw[Qb (by omega)];exact hr.v _ c (zcg hi hj h1) h2
 ok:=M.swap_ok hr.ok hi hj
 inj:=fun a b ha hb h=>zpZ (hr.inj _ _ (zcg hi hj ha) (zcg hi hj hb) h)
theorem Rep.turn(hr:Rep M S)(hi:i<M.n):Rep (M.turn i) (S.turn i) where
 en:=hr.en
 eR:=hr.eR
 h:=fun r c h1 h2=>by
  have h1:r<M.R:=h1;show(if r<M.R+M.n then zfB i (M.g r)else _) c=if c=i then -(S.h r c)else S.h r c
  rw[Qc (by omega)];unfold zfB;rw[hr.h r c h1 h2]
 u:=fun r c h1 h2=>by
  have h1:r<M.n:=h1;show(if M.R+r<M.R+M.n then zfB i (M.g (M.R+r))else _) c=if c=i then -(S.u r c)else S.u r c
  rw[Qc (by omega)];unfold zfB;rw[hr.u r c h1 h2]
 v:=fun r c h1 h2=>by
  show(if M.R+M.n+M.s r<M.R+M.n then _ else if M.R+M.n+M.s r=M.R+M.n+M.s i then fun c=>-(M.g (M.R+M.n+M.s r) c)else M.g (M.R+M.n+M.s r)) c=if r=i then -(S.v r c)else S.v r c
  rw[Qb (by omega)];have hv:=hr.v r c h1 h2;by_cases e:r=i
  .rw[Qc e,Qc (by rw[e]),<-hv]
  .rw[Qb e,Qb (fun h=>e (hr.inj _ _ h1 hi (by omega)))];exact hv
 ok:=hr.ok
 inj:=hr.inj
theorem Rep.less(hr:Rep M S)(hi:i<M.n)(hj:j<M.n):Rep (M.less i j z) (S.less i j z) where
 en:=hr.en
 eR:=hr.eR
 h:=fun r c h1 h2=>by
  have h1:r<M.R:=h1;show(if r<M.R+M.n then zd3 i j z (M.g r)else _) c=if c=j then S.h r c-z*S.h r i else S.h r c
  rw[Qc (by omega)];unfold zd3;rw[hr.h r c h1 h2,hr.h r i h1 hi]
 u:=fun r c h1 h2=>by
  have h1:r<M.n:=h1;show(if M.R+r<M.R+M.n then zd3 i j z (M.g (M.R+r))else _) c=if c=j then S.u r c-z*S.u r i else S.u r c
  rw[Qc (by omega)];unfold zd3;rw[hr.u r c h1 h2,hr.u r i h1 hi]
 v:=fun r c h1 h2=>by
  show(if M.R+M.n+M.s r<M.R+M.n then _ else if M.R+M.n+M.s r=M.R+M.n+M.s i then fun c=>M.g (M.R+M.n+M.s r) c+z*M.g (M.R+M.n+M.s j) c else M.g (M.R+M.n+M.s r)) c=if r=i then S.v r c+z*S.v j c else S.v r c
  rw[Qb (by omega)];have hv:=hr.v r c h1 h2;by_cases e:r=i
  .rw[Qc e,Qc (by rw[e]),<-hv,<-hr.v j c hj h2]
  .rw[Qb e,Qb (fun h=>e (hr.inj _ _ h1 hi (by omega)))];exact hv
 ok:=hr.ok
 inj:=hr.inj
def MX.swp(M:MX)(p k:Nat):MX:=if p=k then M else M.swap p k
def zaO(M:MX)(r k:Nat):Nat->MX
 |0=>M
 |m+1=>(zaO M r k m).less k (k+1+m) (Int.fdiv ((zaO M r k m).g r (k+1+m)) ((zaO M r k m).g r k))
def zaP(M:MX)(r k:Nat):Nat->MX
 |0=>M
 |i+1=>(zaP M r k i).less k i (Int.fdiv ((zaP M r k i).g r i) ((zaP M r k i).g r k))
def hdM(M:MX)(r k:Nat):Option Nat×Nat:=Z8 (M.g r) k (M.n-k)
def stM(M:MX)(r k:Nat):Option MX:=match (hdM M r k).1 with
 |none=>none
 |some p=>if(hdM M r k).2=1 then none else some (zaO (M.swp p k) r k (M.n-(k+1)))
def itM(M:MX)(r k:Nat):Nat->MX
 |0=>M
 |t+1=>match stM (itM M r k t) r k with|some S'=>S'|none=>itM M r k t
def zcn(M:MX)(r k:Nat):MX:=if M.g r k<0 then M.turn k else M
def zcY(M:MX)(r k:Nat):MX:=match (hdM M r k).1 with
 |none=>M
 |some p=>zaP (zcn (M.swp p k) r k) r k k
theorem Rep.swp(hr:Rep M S)(hp:p<M.n)(hk:k<M.n):Rep (M.swp p k) (S.swap p k):=by
 unfold MX.swp;split
 .rename_i e;rw[e,ztb];exact hr
 .exact hr.swap hp hk
theorem ziW:∀ m,(zaO M r k m).n=M.n/\(zaO M r k m).R=M.R
 |0=>⟨rfl,rfl⟩
 |m+1=>ziW m
theorem zkW:∀ m,(zaP M r k m).n=M.n/\(zaP M r k m).R=M.R
 |0=>⟨rfl,rfl⟩
 |m+1=>zkW m
theorem zlA:(M.swp p k).n=M.n/\(M.swp p k).R=M.R:=by unfold MX.swp;split<;>exact⟨rfl,rfl⟩
theorem zoD:(zcn M r k).n=M.n/\(zcn M r k).R=M.R:=by unfold zcn;split<;>exact⟨rfl,rfl⟩
theorem zje(hr:Rep M S)(hR:r<M.R):∀ m,k+1+m<=M.n->Rep (zaO M r k m) (ZG S r k m)
 |0,_=>hr
 |m+1,h=>by
  have ih:=zje hr hR m (by omega);have hd:=ziW (M:=M) (r:=r) (k:=k) m;show Rep ((zaO M r k m).less k (k+1+m) _) ((ZG S r k m).less k (k+1+m) _);rw[ih.h r (k+1+m) (by rw[hd.2];exact hR) (by rw[hd.1];omega),ih.h r k (by rw[hd.2];exact hR) (by rw[hd.1];omega)];exact ih.less (by rw[hd.1];omega) (by rw[hd.1];omega)
theorem zjf(hr:Rep M S)(hR:r<M.R)(hk:k<M.n):∀ m,m<=k->Rep (zaP M r k m) (Zy S r k m)
 |0,_=>hr
 |m+1,h=>by
  have ih:=zjf hr hR hk m (by omega);have hd:=zkW (M:=M) (r:=r) (k:=k) m;show Rep ((zaP M r k m).less k m _) ((Zy S r k m).less k m _);rw[ih.h r m (by rw[hd.2];exact hR) (by rw[hd.1];omega),ih.h r k (by rw[hd.2];exact hR) (by rw[hd.1];omega)];exact ih.less (by rw[hd.1];omega) (by rw[hd.1];omega)
theorem zlU(hr:Rep M S)(hR:r<M.R)(hk:k<=M.n):hdM M r k=hdE S r k:=by
 unfold hdM hdE;rw[<-hr.en];exact zmW fun c h1 h2=>hr.h r c hR (by omega)
theorem zpV(hr:Rep M S)(hR:r<M.R)(hk:k<M.n):Rep (zcn M r k) (zb1 S r k):=by
 unfold zcn zb1;rw[hr.h r k hR hk];split
 .exact hr.turn hk
 .exact hr
theorem zmj{M:MX}{r k p:Nat}(h:(hdM M r k).1=some p):k<=p/\p<M.n:=by have:=zpd h;omega
theorem zqR(hr:Rep M S)(hR:r<M.R)(hk:k<=M.n):match stE S r k,stM M r k with|some S',some M'=>Rep M' S'/\M'.n=M.n/\M'.R=M.R|none,none=>True|_,_=>False:=by
 have hh:=zlU hr hR hk;unfold stE stM;rw[<-hh];cases hp:(hdM M r k).1 with
 |none=>trivial
 |some p =>
  simp only[];by_cases c:(hdM M r k).2=1
  .rw[Qc c,Qc c];trivial
  .rw[Qb c,Qb c]
   have hl:=zmj hp;have hd:=zlA (M:=M) (p:=p) (k:=k);have hm:=ziW (M:=M.swp p k) (r:=r) (k:=k) (M.n-(k+1));rw[<-hr.en];exact⟨zje (hr.swp hl.2 (by omega)) (by rw[hd.2];exact hR) _ (by rw[hd.1];omega),hm.1.trans hd.1,hm.2.trans hd.2⟩
theorem zlV(hr:Rep M S)(hR:r<M.R)(hk:k<=M.n):∀ t,Rep (itM M r k t) (itE S r k t)/\(itM M r k t).n=M.n/\(itM M r k t).R=M.R
 |0=>⟨hr,rfl,rfl⟩
 |t+1=>by
  obtain⟨h1,h2,h3⟩:=zlV hr hR hk t;have:=zqR (r:=r) (k:=k) h1 (by omega) (by omega);rw[itM,itE];revert this;cases stE (itE S r k t) r k<;>cases stM (itM M r k t) r k
  .intro _;exact⟨h1,h2,h3⟩
  .intro h;exact h.elim
  .intro h;exact h.elim
  .rintro⟨h4,h5,h6⟩;exact⟨h4,h5.trans h2,h6.trans h3⟩
theorem zpW(hr:Rep M S)(hR:r<M.R)(hk:k<=M.n):Rep (zcY M r k) (Yj S r k).1/\(Yj S r k).2=(hdM M r k).1.isSome:=by
 have hh:=zlU hr hR hk;unfold zcY Yj;rw[<-hh];cases hp:(hdM M r k).1 with
 |none=>exact⟨hr,rfl⟩
 |some p =>
  have hl:=zmj hp;have hd:=zlA (M:=M) (p:=p) (k:=k);have K9:=zoD (M:=M.swp p k) (r:=r) (k:=k);refine⟨zjf (zpV (hr.swp hl.2 (by omega)) (by rw[hd.2];exact hR) (by rw[hd.1];omega)) (by rw[K9.2,hd.2];exact hR) (by rw[K9.1,hd.1];omega) _ (Qd _),rfl⟩
end
structure LB(K:Nat)(S:HX):Prop where
 h:∀ r c,r<S.R->c<S.n->lN (S.h r c)<=K
 u:∀ r c,r<S.n->c<S.n->lN (S.u r c)<=K
 v:∀ r c,r<S.n->c<S.n->lN (S.v r c)<=K
theorem LB.all{K:Nat}{M:MX}{S:HX}(h:LB K S)(hr:Rep M S):(∀ q c,q<M.R+M.n->c<M.n->lN (M.g q c)<=K)/\∀ i c,i<M.n->c<M.n->lN (M.g (M.R+M.n+M.s i) c)<=K:=by
 have en:=hr.en;have eR:=hr.eR;refine⟨fun q c hq hc=>?_,fun i c hi hc=>?_⟩
 .by_cases e:q<M.R
  .rw[hr.h q c e hc];exact h.h q c (by omega) (by omega)
  .obtain⟨p,rfl⟩:∃ p,q=M.R+p:=⟨q-M.R,by omega⟩
   rw[hr.u p c (by omega) hc];exact h.u p c (by omega) (by omega)
 .rw[hr.v i c hi hc];exact h.v i c (by omega) (by omega)
structure LBrow(K:Nat)(S:HX)(r k T:Nat):Prop where
 stop:stE (itE S r k T) r k=none
 go:∀ t,t<T->stE (itE S r k t) r k≠none
 it:∀ t,t<=T->LB K (itE S r k t)
 red:∀ t p m,t<T->(hdE (itE S r k t) r k).1=some p->k+1+m<=S.n->LB K (ZG ((itE S r k t).swap p k) r k m)
 piv:∀ p,(hdE (itE S r k T) r k).1=some p->LB K ((itE S r k T).swap p k)
 lef:∀ p m,(hdE (itE S r k T) r k).1=some p->m<=k->LB K (Zy (zb2 (itE S r k T) r k p) r k m)
theorem zyX{d:Nat}{M M':MX}{e:List (Nat×List C)}(hn:M'.n=M.n)(hR:M'.R=M.R):(fun t=>(QB (mkL d M') t).or (QB (mkE d M e) t))=QB (mkE d M' e):=by
 funext t;unfold mkE;rw[zc2,zc2];cases h:QB (mkL d M') t with
 |some cs=>rfl
 |none =>
  have hk:QB (mkL d M) t=none:=by
   rw[zbi,zer]at h ⊢;unfold MX.N at *;rw[hn,hR]at h;exact h
  rw[hk];rfl
theorem znW{m:Nat}{F:FuncId}{ys args:List AV}{M M':MX}{σ:St}{K:AV->St->Prop}{r:AV}{e:List (Nat×List C)}(d:Nat)(hm:m=1\/m=2)(h:Zf prog F args (xM M) r (xM M'))(hs:M.Ok)(hn:M'.n=M.n)(hR:M'.R=M.R)(YY:ys=args.map (thA (fun k=>d+k)))(YB:∀ x∈args,inA (xM M) x)
  (hσ:σ.H=QB (mkE d M e)) (hK:K (thA (fun k=>d+k) r) (σ.withH (QB (mkE d M' e)))):ZK prog m F ys σ K:=by
 refine zi4 d hm h hs hn hR YY YB (by rw[hσ,za1];trivial) ?_;rw[hσ,zyX hn hR];exact hK
theorem zjE{d:Nat}{M:MX}{H:QD}:AtM (fun t=>(QB (mkL d M) t).or (H t)) d M:=fun k cs h=>by show(QB _ _).or _=_;rw[h];rfl
section
variable {M:MX} {S:HX} {r k:Nat}
theorem zur{K:Nat}(hK:K<=10000000000)(hM:M.Ok)(Xi:M.N<90000)(hr:r<M.R)(hk:k<=M.n)(hB:∀ c,c<M.n->lN (M.g r c)<=K){d:Nat}{H:QD}(hH:AtM H d M) :
  RdC prog 172 [.one (.ptr d 0),litI .i64 r,litI .i64 k] H (.tup [litI .i64 (zhZ (hdM M r k).1),litI .i64 (hdM M r k).2]) :=
 zy0 d (zwk M r k hK hM Xi hr hk hB) hM rfl (Q2.2 ⟨zjT,Q2.2 ⟨trivial,Q2.2 ⟨trivial,fun x hx=>by cases hx⟩⟩⟩) hH
end
theorem zrf{M:MX}{a b:Int}:∀ x∈[AV.one (.ptr PIN 0),litI .i64 a,litI .i64 b],inA (xM M) x:=Q2.2 ⟨zjT,Q2.2 ⟨trivial,Q2.2 ⟨trivial,fun x hx=>by cases hx⟩⟩⟩
theorem zyY{M:MX}{a:Int}:∀ x∈[AV.one (.ptr PIN 0),litI .i64 a],inA (xM M) x:=Q2.2 ⟨zjT,Q2.2 ⟨trivial,fun x hx=>by cases hx⟩⟩
theorem zrg{M:MX}{a b z:Int}:∀ x∈[AV.one (.ptr PIN 0),litI .i64 a,litI .i64 b,.agg ((cJ z).map .t)],inA (xM M) x:=Q2.2 ⟨zjT,Q2.2 ⟨trivial,Q2.2 ⟨trivial,Q2.2 ⟨(fun c hc=>by obtain⟨t,_,rfl⟩:=Qp.1 hc;trivial),fun x hx=>by cases hx⟩⟩⟩⟩
theorem zus{f:Nat->Int}{k m:Nat}:(Z8 f k m).2=0↔(Z8 f k m).1=none:=by
 have:=zbK f k m;revert this;cases (Z8 f k m).1 with
 |none=>intro h;exact⟨fun _=>rfl,fun _=>h.1⟩
 |some p=>intro h;exact⟨fun h0=>by omega,fun h0=>by cases h0⟩
theorem zyZ(M:MX)(S:HX)(r k:Nat){K T:Nat}(hK:K<=4000000000)(hr:Rep M S)(Xi:M.N<90000)(hR:r<M.R)(hk:k<=M.n)(hL:LBrow K S r k T) :
  Zf prog 161 [.one (.ptr PIN 0),litI .i64 r,litI .i64 k] (xM M) (QO (Yj (itE S r k T) r k).2) (xM (zcY (itM M r k T) r k)):=by
 have JC:=fun t=>zlV hr hR hk t
 have UD:∀ M':MX,M'.n=M.n->M'.R=M.R->M'.N<90000:=fun M' h1 h2=>by unfold MX.N at *;omega
 obtain⟨repT,nT,RT⟩:=JC T;obtain⟨repF,e2F⟩:=zpW repT (r:=r) (k:=k) (by omega) (by omega);have dF:=znR (S:=itE S r k T) (r:=r) (k:=k);have nF:(zcY (itM M r k T) r k).n=M.n:=by rw[repF.en,dF.1,<-repT.en,nT]
 have RF:(zcY (itM M r k T) r k).R=M.R:=by rw[repF.eR,dF.2,<-repT.eR,RT]
 refine zaq QC call161 func161 rfl ntmps161 results161 (by simp) (by decide) ?_ ?_ ?_ ?_ ?_
 .exact zfk _
 .exact zdc nF RF
 .exact zfu _ repF.ok
 .trivial
 .have xw:xM M=QB (mkE 1000000 (itM M r k 0) []):=rfl
  rw[xw];simp only[go_sem,PIN];refine QK (fun t:Nat=>stL 122 [(0,.one (.ptr 1000000 0)),(1,litI .i64 r),(2,litI .i64 k)] (mkE 1000000 (itM M r k t) [])) (fun t=>t<=T) (fun t=>T-t) 0 ?_ (Qk _) ?_
  .have XH:∀ D e,QT (mkD 1000000 M D) (mkE 1000000 M e)=QT (mkD 1000000 M D) e:=fun D e=>zbv hr.ok
   show Abs.GStep _ (stL _ _ (mkE 1000000 M []))
   (refine Q7 rfl ?_ ?_ ?_ ?_<;>(try simp only[go_sem,XH])<;>(try simp only[Qy,Qv,Qu]))
   show AtM (QB (mkE 1000000 M [])) 1000000 M;rw[za1];trivial
  .intro t ht
   obtain⟨rep1,n1,R1⟩:=JC t;have lb1:=(hL.it t ht)
   obtain⟨lbA,lbB⟩:=lb1.all rep1;have YN:=zqR rep1 (r:=r) (k:=k) (by omega) (by omega);have itS:itM M r k (t+1)=match stM (itM M r k t) r k with|some S'=>S'|none=>itM M r k t:=rfl
   have Em:=zlU rep1 (r:=r) (k:=k) (by omega) (by omega);have enS:(itE S r k t).n=M.n:=by rw[<-rep1.en,n1]
   generalize VZ:itM M r k t=M1 at rep1 n1 R1 lbA lbB YN itS Em ⊢;have rd:=zur (r:=r) (k:=k) (K:=K) (by omega) rep1.ok (UD _ n1 R1) (by omega) (by omega) (fun c hc=>lbA r c (by omega) hc) (d:=1000000) (H:=QB (mkE 1000000 M1 [])) (by rw[za1];trivial);have Gx:(hdM M1 r k).2=0↔(hdM M1 r k).1=none:=zus;have YZ:(hdM M1 r k).2<=M1.n-k:=zlf _;have Gy:stM M1 r k=none->t=T:=fun h=>by
    refine waD fun hne=>?_
    rw[h]at YN;cases Gz:stE (itE S r k t) r k with
    |none=>exact hL.go t (by omega) Gz
    |some S'=>rw[Gz]at YN;exact YN
   have Fk:stM M1 r k≠none->t<T:=fun h=>by
    refine waD fun hne=>?_
    obtain rfl:t=T:=by omega
    rw[hL.stop]at YN;cases Gz:stM M1 r k with
    |none=>exact h Gz
    |some S'=>rw[Gz]at YN;exact YN
   simp only[go_sem];refine zbL (.inr rfl) rd ?_;cases hp:(hdM M1 r k).1 with
   |none =>
    have h0:(((hdM M1 r k).2:Int)=0)=True:=Qf (by have:=Gx.2 hp;omega);have Vc:stM M1 r k=none:=by unfold stM;rw[hp]
    obtain rfl:=Gy Vc;simp only[go_sem,h0];refine zeG (.inr rfl) trivial ?_ ?_
    .rw[e2F,VZ,hp];rfl
    .have:zcY M1 r k=M1:=by unfold zcY;rw[hp]
     rw[VZ,this];exact fun _ _=>rfl
   |some p =>
    obtain⟨VR,Uv⟩:=zmj hp;have XQ:k<M1.n:=by omega
    have h0:(((hdM M1 r k).2:Int)=0)=False:=Ql (fun h=>by have:=Gx.1 (by omega);rw[hp]at this;cases this);simp only[go_sem,h0];have XD:=zlA (M:=M1) (p:=p) (k:=k);have rep2:=rep1.swp (p:=p) (k:=k) Uv XQ;have lb2:LB K ((itE S r k t).swap p k):=by
     by_cases c:t<T
     .exact hL.red t p 0 c (by rw[<-Em];exact hp) (by have:=rep1.en;have:=hr.en;omega)
     .obtain rfl:t=T:=by omega
      exact hL.piv p (by rw[<-Em];exact hp)
    have n2:(M1.swp p k).n=M.n:=XD.1.trans n1;have R2:(M1.swp p k).R=M.R:=XD.2.trans R1;have JD:stM M1 r k=if(hdM M1 r k).2=1 then none else some (zaO (M1.swp p k) r k (M1.n-(k+1))):=by unfold stM;rw[hp]
    have Rt:(hdM M1 r k).2=1->t=T/\zcY (itM M r k T) r k=zaP (zcn (M1.swp p k) r k) r k k:=fun h=>by
     have ht:=Gy (by rw[JD,Qc h]);refine⟨ht,?_⟩;rw[<-ht,VZ];unfold zcY;rw[hp]
    have J7:(hdM M1 r k).2≠1->t<T/\itM M r k (t+1)=zaO (M1.swp p k) r k (M.n-(k+1)):=fun h=>by
     rw[Qb h]at JD;refine⟨Fk (by rw[JD];simp),?_⟩;rw[itS,JD,n1]
    have Lx:(hdE (itE S r k t) r k).1=some p:=by rw[<-Em];exact hp
    generalize XC:(hdM M1 r k).2=cn at *
    refine QI (fun hne=>?_) (fun Jp=>?_)
    focus
     have NT:p≠k:=by omega
     have e2:M1.swp p k=M1.swap p k:=Qb NT;simp only[go_sem];refine znW (M:=M1) (M':=M1.swp p k) 1000000 (.inr rfl) (by rw[e2];exact zx1 M1 p k rep1.ok (UD _ n1 R1) Uv XQ NT) rep1.ok XD.1 XD.2 rfl zrf rfl ?_;simp only[go_sem]
    rotate_left
    focus
     have NT:p=k:=by omega
     have e2:M1.swp p k=M1:=Qc NT;simp only[go_sem];rw[<-e2]
    all_goals(
     generalize S2:M1.swp p k=M2 at rep2 n2 R2 Rt J7 ⊢;have KE:k<M2.n:=by omega
     refine QI (fun Ux=>?_) (fun Ux=>?_)
     .obtain⟨rfl,KF⟩:=Rt (by omega)
      obtain⟨MF,Fl⟩:∃ MF,MF=zaP (zcn M2 r k) r k k:=⟨_,rfl⟩
      rw[KF,<-Fl];have G0:M.R+M.n+M.n<90000:=Xi;have Xv:((k:Int)<(M.n:Int))=True:=Qf (by omega);have Xh:((r:Int)<(M.R:Int))=True:=Qf (by omega);have a3:(rowsC 1000100 2 M.n M.R).drop r = .vec (1000100+r) 2 0 M.n::(rowsC 1000100 2 M.n M.R).drop (r+1):=zcw hR;have YT:=zbj (b:=1000100) (sz:=2) (len:=M.n) (n:=M.R);have kf:∀ e,QB (mkE 1000000 M2 e) (1000100+r)=some (Q5 cJ (fnG M.n (M2.g r))):=fun e=>by
       have:=zck (b:=1000000) (M:=M2) (e:=e) (i:=r) (by unfold MX.N;omega);rw[n2]at this;exact this
      have c2:=Z1 (f:=cJ) (sz:=2) (g:=M2.g r) Ye (show k<M.n by omega);have cl:=fun g=>zaB (n:=M.n) (g:=g)
      obtain⟨lbA2,lbB2⟩:=lb2.all rep2;have b2:=lbA2 r k (by omega) (by omega);have o1:=zdF (M2.g r k) (by omega);have XJ:(M2.g r k).sign<0↔M2.g r k<0:=Int.sign_neg_iff;have dM3:=zoD (M:=M2) (r:=r) (k:=k);have rep3:Rep (zcn M2 r k) (zb2 (itE S r k t) r k p):=zpV (r:=r) (k:=k) rep2 (by omega) (by omega);simp only[go_sem,n2,R2,a3,Xh,kf,c2,Xv]
      (repeat(refine Qg (by omega) ?_))
      ((repeat(refine Q4 0 rfl ?_;simp only[go_sem,n2,R2,a3,Xh,kf,c2,Xv,cl,YT,Za]));refine Q3 (o1) rfl ?_;simp only[go_sem];(repeat(refine Q4 0 rfl ?_;simp only[go_sem,n2,R2,a3,Xh,kf,c2,Xv,cl,YT,Za])));refine QI (fun JE=>?_) (fun JE=>?_)
      focus
       have e3:zcn M2 r k=M2.turn k:=Qc (XJ.1 JE);simp only[go_sem];refine znW (M:=M2) (M':=zcn M2 r k) 1000000 (.inr rfl) (by rw[e3];exact zyw M2 k (K:=K) (by omega) rep2.ok (UD _ n2 R2) KE lbA2 lbB2) rep2.ok dM3.1 dM3.2 rfl zyY rfl ?_;simp only[go_sem]
      rotate_left
      focus
       have e3:zcn M2 r k=M2:=Qb (fun h=>JE (XJ.2 h));simp only[go_sem];rw[<-e3]
      all_goals(
       generalize zcn M2 r k=M3 at rep3 dM3 Fl ⊢;have n3:M3.n=M.n:=dM3.1.trans n2;have R3:M3.R=M.R:=dM3.2.trans R2;refine QK (fun i:Nat=>stL 122 [(0,.one (.ptr 1000000 0)),(1,litI .i64 r),(2,litI .i64 k),(88,litI .i64 k),(89,litI .i64 i)] (mkE 1000000 (zaP M3 r k i) [])) (fun i=>i<=k) (fun i=>k-i) 0 ?_ (Qk _) ?_
       .show Abs.GStep _ (stL _ _ (mkE 1000000 M3 []))
        have XH:∀ D e,QT (mkD 1000000 M3 D) (mkE 1000000 M3 e)=QT (mkD 1000000 M3 D) e:=fun D e=>zbv rep3.ok
        (refine Q7 rfl ?_ ?_ ?_ ?_<;>(try simp only[go_sem,XH])<;>(try simp only[Qy,Qv,Qu]))
       .intro i hi
        have rep4:=zjf (r:=r) (k:=k) rep3 (by omega) (by omega) i hi;have d4:=zkW (M:=M3) (r:=r) (k:=k) i;have G7:zaP M3 r k (i+1)=(zaP M3 r k i).less k i (Int.fdiv ((zaP M3 r k i).g r i) ((zaP M3 r k i).g r k)):=rfl;have lb4:=hL.lef p i Lx hi;obtain⟨lbA4,lbB4⟩:=lb4.all rep4;have RU:i<k->∀ D e,QT (mkD 1000000 (zaP M3 r k (i+1)) D) (mkE 1000000 (zaP M3 r k (i+1)) e)=QT (mkD 1000000 (zaP M3 r k (i+1)) D) e:=fun h D e =>
         zbv (zjf (r:=r) (k:=k) rep3 (by omega) (by omega) (i+1) (by omega)).ok
        generalize Ov:zaP M3 r k i=M4 at rep4 d4 G7 lbA4 lbB4 ⊢;have n4:M4.n=M.n:=d4.1.trans n3;have R4:M4.R=M.R:=d4.2.trans R3;simp only[go_sem];refine QI (fun Yw=>?_) (fun YG=>?_)
        .have Yv:i<M.n:=by omega
         have XK:((i:Int)<(M.n:Int))=True:=Qf (by omega);have kf:∀ e,QB (mkE 1000000 M4 e) (1000100+r)=some (Q5 cJ (fnG M.n (M4.g r))):=fun e=>by
          have:=zck (b:=1000000) (M:=M4) (e:=e) (i:=r) (by unfold MX.N;omega);rw[n4]at this;exact this
         have c1:=Z1 (f:=cJ) (sz:=2) (g:=M4.g r) Ye Yv;have c2:=Z1 (f:=cJ) (sz:=2) (g:=M4.g r) Ye (show k<M.n by omega);have b1:=lbA4 r i (by omega) (by omega);have b2:=lbA4 r k (by omega) (by omega);have o1:=zeh (M4.g r i) (M4.g r k) (by omega) (by omega);have hz:=zas (M4.g r i) (M4.g r k);generalize Int.fdiv (M4.g r i) (M4.g r k)=z at *
         simp only[go_sem];refine Q4 0 rfl ?_;simp only[go_sem,n4,R4,a3,Xh,kf,c1,c2,XK,Xv]
         (repeat(refine Qg (by omega) ?_))
         ((repeat(refine Q4 0 rfl ?_;simp only[go_sem,n4,R4,a3,Xh,kf,c1,c2,XK,Xv,cl,YT,Za]));refine Q3 (o1) rfl ?_;simp only[go_sem,Za];(repeat(refine Q4 0 rfl ?_;simp only[go_sem,n4,R4,a3,Xh,kf,c1,c2,XK,Xv,cl,YT,Za])));refine zi4 (M:=M4) (M':=M4.less k i z) 1000000 (.inr rfl) (zqZ M4 k i z (K:=K+1) (by omega) rep4.ok (UD _ n4 R4) (by omega) (by omega) (fun h=>by have:=rep4.inj _ _ (by omega) (by omega) h;omega) (by omega) (fun a b h1 h2=>by have:=lbA4 a b h1 h2;omega) (fun a b h1 h2=>by have:=lbB4 a b h1 h2;omega)) rep4.ok rfl rfl rfl zrg (by simp only[go_sem,zaA]) ?_;simp only[go_sem];refine⟨i+1,(by show i+1<=k;omega),(by show k-(i+1)<k-i;omega),?_⟩;have XH:=RU (by omega)
         (refine Q7 rfl ?_ ?_ ?_ ?_<;>(try simp only[go_sem,XH,Q6 (n:=(i:Int)+1) (by omega) (by omega)])<;>(try simp only[Qy,Qv,Qu]))
         rw[G7];exact zjE
        .obtain rfl:i=k:=by omega
         simp only[go_sem];refine zeG (.inr rfl) trivial ?_ ?_
         .rw[e2F,VZ,hp];rfl
         .rw[Fl,Ov]
          exact fun _ _=>rfl)
     .obtain⟨Ly,Yx⟩:=J7 (by omega)
      simp only[go_sem];have WX:IntKind.i64.wrap ((k:Int)+1)=((k+1:Nat):Int):=by have:MX.N M<90000:=Xi;unfold MX.N at this;rw[Q6 (by omega) (by omega)];omega
      refine QK (fun m:Nat=>stL 122 [(0,.one (.ptr 1000000 0)),(1,litI .i64 r),(2,litI .i64 k),(9,litI .i64 (k+1+m:Nat))] (mkE 1000000 (zaO M2 r k m) [])) (fun m=>k+1+m<=M.n) (fun m=>M.n-(k+1+m)) 0 ?_ (by show k+1+0<=M.n;omega) ?_
      .show Abs.GStep _ (stL _ _ (mkE 1000000 M2 []))
       have XH:∀ D e,QT (mkD 1000000 M2 D) (mkE 1000000 M2 e)=QT (mkD 1000000 M2 D) e:=fun D e=>zbv rep2.ok
       (refine Q7 rfl ?_ ?_ ?_ ?_<;>(try simp only[go_sem,XH,WX])<;>(try simp only[Qy,Qv,Qu]))
      .intro m hm
       have G0:M.R+M.n+M.n<90000:=Xi;have rep3:=zje (r:=r) (k:=k) rep2 (by omega) m (by omega);have d3:=ziW (M:=M2) (r:=r) (k:=k) m;have RV:zaO M2 r k (m+1)=(zaO M2 r k m).less k (k+1+m) (Int.fdiv ((zaO M2 r k m).g r (k+1+m)) ((zaO M2 r k m).g r k)):=rfl;have lb3:=hL.red t p m Ly Lx (by rw[<-hr.en];exact hm);obtain⟨lbA3,lbB3⟩:=lb3.all rep3;have RU:k+1+m<M.n->∀ D e,QT (mkD 1000000 (zaO M2 r k (m+1)) D) (mkE 1000000 (zaO M2 r k (m+1)) e)=QT (mkD 1000000 (zaO M2 r k (m+1)) D) e:=fun h D e =>
        zbv (zje (r:=r) (k:=k) rep2 (by omega) (m+1) (by omega)).ok
       generalize Ow:zaO M2 r k m=M3 at rep3 d3 RV lbA3 lbB3 ⊢;have n3:M3.n=M.n:=d3.1.trans n2;have R3:M3.R=M.R:=d3.2.trans R2;obtain⟨q,hq⟩:∃ q,q=k+1+m:=⟨_,rfl⟩
       have XI:((k+1+(m+1):Nat):Int)=(q:Int)+1:=by omega
       have X6:k+1+m<M.n->k+1+(m+1)<=M.n:=by omega
       have NU:k+1+m<M.n->M.n-(k+1+(m+1))<M.n-(k+1+m):=by omega
       rw[<-hq]at RV ⊢;simp only[go_sem,n3,R3];refine QI (fun Yw=>?_) (fun YG=>?_)
       .have Yv:q<M.n:=by omega
        have Wb:((q:Int)<(M.n:Int))=True:=Qf (by omega);have Xv:((k:Int)<(M.n:Int))=True:=Qf (by omega);have Xh:((r:Int)<(M.R:Int))=True:=Qf (by omega);have a3:(rowsC 1000100 2 M.n M.R).drop r = .vec (1000100+r) 2 0 M.n::(rowsC 1000100 2 M.n M.R).drop (r+1):=zcw hR;have YT:=zbj (b:=1000100) (sz:=2) (len:=M.n) (n:=M.R);have kf:∀ e,QB (mkE 1000000 M3 e) (1000100+r)=some (Q5 cJ (fnG M.n (M3.g r))):=fun e=>by
         have:=zck (b:=1000000) (M:=M3) (e:=e) (i:=r) (by unfold MX.N;omega);rw[n3]at this;exact this
        have c1:=Z1 (f:=cJ) (sz:=2) (g:=M3.g r) Ye Yv;have c2:=Z1 (f:=cJ) (sz:=2) (g:=M3.g r) Ye (show k<M.n by omega);have cl:=fun g=>zaB (n:=M.n) (g:=g)
        have b1:=lbA3 r q (by omega) (by omega);have b2:=lbA3 r k (by omega) (by omega);have o1:=zeh (M3.g r q) (M3.g r k) (by omega) (by omega);have hz:=zas (M3.g r q) (M3.g r k);generalize Int.fdiv (M3.g r q) (M3.g r k)=z at *
        refine Q4 0 rfl ?_;simp only[go_sem,n3,R3,a3,Xh,kf,c1,c2,Wb,Xv]
        (repeat(refine Qg (by omega) ?_))
        ((repeat(refine Q4 0 rfl ?_;simp only[go_sem,n3,R3,a3,Xh,kf,c1,c2,Wb,Xv,cl,YT,Za]));refine Q3 (o1) rfl ?_;simp only[go_sem,Za];(repeat(refine Q4 0 rfl ?_;simp only[go_sem,n3,R3,a3,Xh,kf,c1,c2,Wb,Xv,cl,YT,Za])));refine zi4 (M:=M3) (M':=M3.less k q z) 1000000 (.inr rfl) (zqZ M3 k q z (K:=K+1) (by omega) rep3.ok (UD _ n3 R3) (by omega) (by omega) (fun h=>by have:=rep3.inj _ _ (by omega) (by omega) h;omega) (by omega) (fun a b h1 h2=>by have:=lbA3 a b h1 h2;omega) (fun a b h1 h2=>by have:=lbB3 a b h1 h2;omega)) rep3.ok rfl rfl rfl zrg (by simp only[go_sem,zaA]) ?_;simp only[go_sem];refine⟨m+1,X6 (by omega),NU (by omega),?_⟩;have XH:=RU (by omega)
        (refine Q7 rfl ?_ ?_ ?_ ?_<;>(try simp only[go_sem,XI,XH,Q6 (n:=(q:Int)+1) (by omega) (by omega)])<;>(try simp only[Qy,Qv,Qu]))
        rw[RV];exact zjE
       .have Fn:m=M.n-(k+1):=by omega
        simp only[go_sem];refine⟨t+1,Ly,(by show T-(t+1)<T-t;omega),?_⟩;show Abs.GStep _ (stL 122 _ (mkE 1000000 (itM M r k (t+1)) []));rw[Yx,<-Fn,Ow];have XH:∀ D e,QT (mkD 1000000 M3 D) (mkE 1000000 M3 e)=QT (mkD 1000000 M3 D) e:=fun D e=>zbv rep3.ok
        (refine Q7 rfl ?_ ?_ ?_ ?_<;>(try simp only[go_sem,XH])<;>(try simp only[Qy,Qv,Qu])))
theorem zeZ:∀ n:Nat,WeakL (Zg n [C.t (.lit (.bool false)),C.t (.seq (some true) [])]) (Q5 cJ (fnG n fun _=>0)):=by
 intro n;have e:∀ n,fnG n (fun _=>(0:Int))=List.replicate n 0:=fun n=>by unfold fnG;rw[wdt];simp
 rw[e]
 induction n with
 |zero=>exact .nil
 |succ n ih =>
  unfold Zg at ih ⊢;rw[wbp,wbp,wbx,zcq];exact .cons .refl (.cons (by show WeakC _ (.t (eN (dig 0)));rw[Zi];exact .seq) ih)
def zaw(k:Nat):List C:=List.replicate k (C.t (.seq (some true) []))
theorem ztr{k:Nat}:Zg k [C.t (.seq (some true) [])]=zaw k:=by
 unfold Zg zaw
 induction k with
 |zero=>rfl
 |succ k ih=>rw[wbp,wbx,ih,wbp];rfl
theorem zis{k:Nat}{D:List Nat}:(zaw k).all (Z9 D)=true:=by
 unfold zaw;rw[List.all_replicate];cases k<;>simp[Z9]
theorem zkJ{k:Nat}{g:C->C}(h:∀ x,g (.t x) = .t x):(zaw k).map g=zaw k:=by unfold zaw;rw[List.map_replicate,h]
def grL(b R n:Nat)(g:Nat->Nat->Int):List (Nat×List C):=zae (b+100) cJ (fun i=>fnG n (g i)) R++[(b+1,rowsC (b+100) 2 n R)]
theorem zqz{i t:Nat}(h:t<900100):(t=900100+i)=False:=Ql (by omega)
theorem zeH{i t:Nat}(h:t<900100):(900100+i=t)=False:=Ql (by omega)
theorem zhK{i:Nat}:(900100<=900100+i)=True:=Qf (by omega)
theorem zkK{b R n:Nat}{g:Nat->Nat->Int}:(grL b R n g).map (·.1)=zco (b+100) R++[b+1]:=by unfold grL;rw[waG,zk0];rfl
theorem zob{b R n:Nat}{g:Nat->Nat->Int}:QT ((grL b R n g).map (·.1)) (grL b R n g)=true:=by
 rw[zkK];unfold grL;rw[zkA];show((rowsC (b+100) 2 n R).all _&&true)=true;rw[zke];rfl
theorem zqA(R n:Nat)(hR:R+n<90000):zbX prog 159 [tI .i64 R,tI .i64 n] (QB (grL 900000 R n fun _ _=>0)) (.one (.vec 900001 1 0 R)):=by
 refine zcp QC call159 func159 rfl ntmps159 results159 (by simp) (by decide) ?_ ?_ ?_
 .exact zb9 zob
 .show QB (grL 900000 R n _) 900001≠none
  rw[Ne,zbi,zkK];intro h;exact h (by simp)
 .obtain⟨g0,JM⟩:∃ g0:Nat->List Int,g0=fun _=>fnG n fun _=>0:=⟨_,rfl⟩
  simp only[go_sem]
  (repeat(refine Qg (by omega) ?_))
  refine QK (fun i:Nat=>stL 21 [(1,litI .i64 n),(5,.one (.vec 900001 1 0 R)),(10,litI .i64 R),(11,litI .i64 i)]
   (zae 900100 cJ g0 i++[(900001,rowsC 900100 2 n i++zaw (R-i))])) (fun i=>i<=R) (fun i=>R-i) 0 ?_ (Qk _) ?_
  .rw[wbI]
   refine GStep.trans (zc6 (b:=8) (b':=900001) (by simp only[go_sem]) (by decide) (by decide)) ?_;have E0:∀ k g,(∀ x,g (.t x) = .t x)->(zaw k).map g=zaw k:=fun k g h=>zkJ h
   (refine Q7 rfl ?_ ?_ ?_ ?_<;>(try simp only[go_sem,ztr])<;>(try simp only[Qy,Qv,Qw,Qu]))
   .refine⟨fun i hi=>by omega,?_⟩
    rw[zkJ fun _=>rfl];rfl
   .exact zis
  .intro i hi
   simp only[go_sem];refine QI (fun Yw=>?_) (fun YG=>?_)
   .have Yv:i<R:=by omega
    have Y0:(rowsC 900100 2 n i++zaw (R-i)).length=R:=by rw[Qj,zbj];unfold zaw;rw[List.length_replicate];omega
    have V3:(rowsC 900100 2 n i++zaw (R-i)).take i++C.vec 17 2 0 n::(rowsC 900100 2 n i++zaw (R-i)).drop (i+1)=rowsC 900100 2 n i++C.vec 17 2 0 n::zaw (R-(i+1)):=by
     rw[List.take_left' zbj,List.drop_append,zbj,wdu (by rw[zbj];omega),wbw,show i+1-i=1 by omega];unfold zaw;rw[List.drop_replicate];rfl
    generalize hY:rowsC 900100 2 n i++zaw (R-i)=Y at *
    simp only[go_sem,Yw,Y0,V3]
    (repeat(refine Qg (by omega) ?_))
    refine⟨i+1,(by show i+1<=R;omega),(by show R-(i+1)<R-i;omega),?_⟩;refine GStep.trans (zar 17 (cs:=Zg n [C.t (T.lit (Value.bool false)),C.t (T.seq (some true) [])]) (by simp only[go_sem]<;>rfl) (zeZ n)) ?_;refine GStep.trans (zc6 (b:=17) (b':=900100+i) (by simp only[go_sem,zeH]<;>simp) (by show _<1000000;omega) (by omega)) ?_;have FB:(rowsC 900100 2 n i++C.vec 17 2 0 n::zaw (R-(i+1))).map (rnC (mvN 17 (900100+i)))=rowsC 900100 2 n (i+1)++zaw (R-(i+1)):=by
     rw[waG,waq,zg8 (fun j hj=>by show(if 900100+j=17 then _ else _)=_;rw[Qb (by omega)]),zkJ fun _=>rfl,<-zkf,waM];show _++C.vec (if 17=17 then 900100+i else 17) 2 0 n::_=_;rw[Qc rfl];rfl
    (refine Q7 rfl ?_ ?_ ?_ ?_<;>(try simp only[go_sem,zeH,zqz,FB,Q6 (n:=(i:Int)+1) (by omega) (by omega)])<;>(try simp only[Qy,Qv,Qw,Qu]))
    .intro j hj
     by_cases e:j=i
     .rw[Qc e,JM]
     .rw[Qb e,Qc ⟨by omega,by omega⟩];show some ((Q5 cJ (g0 j)).map (rnC _))=_;rw[zgY]
    .rw[List.all_append,zke,zis];rfl
   .obtain rfl:i=R:=by omega
    simp only[go_sem];refine⟨.inr rfl,(fun x hx=>by obtain rfl:=Qr.1 hx;trivial),rfl,fun b cs h=>?_⟩;show QB (zae 900100 cJ g0 i++[(900001,rowsC 900100 2 n i++zaw (i-i))]) b=some cs;rw[wbl,show zaw 0=[]from rfl,wal,JM];exact h
theorem zit{m:Nat}{f:FuncId}{ys:List AV}{tvs:List TV}{R n q hk:Nat}{g:Nat->Nat->Int}{rows:Nat->List Int}{e:List (Nat×List C)}{σ:St}{K:AV->St->Prop}(hm:m=1\/m=2)(hN:zbX prog f tvs (QB (grL 900000 R n g)) (.one (.vec 900001 1 0 R)))(YY:ys=tvs.map emb)
  (hq:q+R<90000) (Vr:hk<900100) (hσ:σ.H=QB (zae 900100 cJ rows q++e)) (he:∀ b,b∈e.map (·.1)->b<900100/\b≠hk) (hr:∀ i,i<R->rows (q+i)=fnG n (g i))
  (hK:K (.one (.vec hk 1 0 R)) (σ.withH (QB (zae 900100 cJ rows (q+R)++((hk,rowsC (900100+q) 2 n R)::e))))):ZK prog m f ys σ K:=by
 have hX:∀ b,QB (grL 900000 R n g) b=if 900100<=b/\b<900100+R then some (Q5 cJ (fnG n (g (b-900100))))else if b=900001 then some (rowsC 900100 2 n R)else none:=fun b=>by
  unfold grL;rw[zcE];rfl
 have JN:∀ b,QB (grL 900000 R n g) b≠none->(900100<=b/\b<900100+R)\/b=900001:=fun b h=>by
  rw[hX]at h;by_cases c:900100<=b/\b<900100+R
  .exact .inl c
  .rw[Qb c]at h
   by_cases c2:b=900001
   .exact .inr c2
   .rw[Qb c2]at h;exact(h rfl).elim
 have LM:∀ b,(900100<=b\/b=hk)->QB e b=none:=fun b hb=>zbg fun hm=>by
  have:=he b hm;rcases hb with h|h
  .omega
  .exact this.2 h
 have hP:PIN=1000000:=rfl;refine zfb (fun b=>if b=900001 then hk else b+q) hm hN YY (fun b hb=>?_) (fun b b' hb hb' h=>?_) (fun b cs hb=>?_) (fun x hx=>?_) (H':=QB (zae 900100 cJ rows (q+R)++((hk,rowsC (900100+q) 2 n R)::e))) ?_
 .rw[hσ]
  rcases JN b hb with h|h
  .show QB _ (if b=900001 then hk else b+q)=none/\(if b=900001 then hk else b+q)<PIN
   rw[Qb (by omega),zcE,Qb (by omega)];exact⟨LM _ (.inl (by omega)),by omega⟩
  .show QB _ (if b=900001 then hk else b+q)=none/\(if b=900001 then hk else b+q)<PIN
   rw[Qc h,zcE,Qb (by omega)];exact⟨LM _ (.inr rfl),by omega⟩
 .have h:(if b=900001 then hk else b+q)=(if b'=900001 then hk else b'+q):=h
  rcases JN b hb with h1|h1<;>rcases JN b' hb' with h2|h2
  .rw[Qb (by omega),Qb (by omega)]at h;omega
  .rw[Qb (by omega),Qc h2]at h;omega
  .rw[Qc h1,Qb (by omega)]at h;omega
  .omega
 .show QB _ (if b=900001 then hk else b+q)=_
  rcases JN b (by rw[hb];simp)with h|h
  .rw[hX,Qc h]at hb
   cases hb
   rw[Qb (by omega),zcE,Qc ⟨by omega,by omega⟩,zgY,show b+q-900100=q+(b-900100) by omega,hr _ (by omega)]
  .rw[hX,Qb (by omega),Qc h]at hb
   cases hb
   rw[Qc h,zcE,Qb (by omega)];show(if hk=hk then _ else _)=_;rw[Qc rfl];unfold rowsC;rw[wac];congr 1;exact wau fun i hi=>by
    show _=C.vec (if 900100+i=900001 then hk else 900100+i+q) 2 0 n;rw[Qb (by omega),show 900100+q+i=900100+i+q by omega]
 .rw[hσ,zcE,zcE]
  have KK:x≠hk:=fun h=>hx 900001 (by rw[hX,Qb (by omega),Qc rfl];simp) (by show(if 900001=900001 then hk else _)=x;rw[Qc rfl,h])
  have Ud:¬(900100+q<=x/\x<900100+q+R):=fun h=>hx (x-q) (by rw[hX,Qc ⟨by omega,by omega⟩];simp) (by show(if x-q=900001 then hk else x-q+q)=x;rw[Qb (by omega)];omega)
  by_cases c:900100<=x/\x<900100+q
  .rw[Qc c,Qc ⟨c.1,by omega⟩]
  .rw[Qb c,Qb (by omega)]
   show(if x=hk then _ else QB e x)=_;rw[Qb KK]
 .show K (.one (.vec (if 900001=900001 then hk else 900001+q) 1 0 R)) _
  rw[Qc rfl];exact hK
def dlt(i j:Nat):Int:=if i=j then 1 else 0
def zcW(k i j:Nat):Int:=if i<k then dlt i j else 0
theorem zx7(n:Nat)(hn:n<40000):zbX prog 160 [tI .i64 n] (QB (grL 900000 n n dlt)) (.one (.vec 900001 1 0 n)):=by
 refine zcp QC call160 func160 rfl ntmps160 results160 (by simp) (by decide) ?_ ?_ ?_
 .exact zb9 zob
 .show QB (grL 900000 n n _) 900001≠none
  rw[Ne,zbi,zkK];intro h;exact h (by simp)
 .have o1:Q9 prog 106 [tI .i64 1] (eI 1):=zbP 1 (by decide) (by decide)
  have gr:=zqA n n (by omega);have z1:(1:Int)=1:=rfl;simp only[go_sem];refine zit (m:=2) (q:=0) (hk:=900001) (g:=fun _ _=>0) (rows:=fun i=>fnG n (zcW 0 i)) (e:=[]) (.inr rfl) gr rfl (by omega) (by decide) ?_ (fun b hb=>by cases hb) (fun i hi=>Yk fun j hj=>by show zcW 0 (0+i) j=0;unfold zcW;rw[Qb (waO _)]) ?_
  .funext b
   rfl
  .simp only[go_sem]
   obtain⟨one,h1⟩:∃ one:Int,one=1:=⟨_,rfl⟩
   have o1:Q9 prog 106 [tI .i64 1] (eI one):=by rw[h1];exact o1
   refine QK (fun i:Nat=>stL 22 [(3,.one (.vec 900001 1 0 n)),(9,litI .i64 n),(10,litI .i64 i)]
    (zae 900100 cJ (fun j=>fnG n (zcW i j)) n++[(900001,rowsC 900100 2 n n)])) (fun i=>i<=n) (fun i=>n-i) 0 ?_ (Qk _) ?_
   ·(refine Q7 rfl ?_ ?_ ?_ ?_<;>(try simp only[go_sem])<;>(try simp only[Qy,Qv,Qw,Qu]))
    exact fun i hi=>by rw[Qc ⟨by omega,hi⟩]
   .intro i hi
    simp only[go_sem];refine QI (fun Yw=>?_) (fun YG=>?_)
    .have Yv:i<n:=by omega
     have a3:(rowsC 900100 2 n n).drop i = .vec (900100+i) 2 0 n::(rowsC 900100 2 n n).drop (i+1):=zcw Yv;have YT:=zbj (b:=900100) (sz:=2) (len:=n) (n:=n);have cl:=fun g=>zaB (n:=n) (g:=g)
     have sd:=zbD (n:=n) (g:=zcW i i) Yv (q:=one);simp only[go_sem];refine Q4 0 rfl ?_;simp only[go_sem,a3,Yw]
     (repeat(refine Qg (by omega) ?_))
     ((repeat(refine Q4 0 rfl ?_;simp only[go_sem,a3,YT,Yw,cl,zeH,zhK,Yv,sd]));refine Q3 (o1) rfl ?_;simp only[go_sem,Yw,cl,zeH,zhK,Yv,sd];(repeat(refine Q4 0 rfl ?_;simp only[go_sem,a3,YT,Yw,cl,zeH,zhK,Yv,sd])))
     (repeat(refine Qg (by omega) ?_))
     refine⟨i+1,Yv,(by show n-(i+1)<n-i;omega),?_⟩
     (refine Q7 rfl ?_ ?_ ?_ ?_<;>(try simp only[go_sem,zeH,zqz,Q6 (n:=(i:Int)+1) (by omega) (by omega)])<;>(try simp only[Qy,Qv,Qw,Qu]))
     intro j hj;by_cases e:j=i
     .rw[Qc e]
      congr 2;refine Yk fun v hv=>?_
      have k1:zcW i i v=0:=Qb (wa8 i);have k2:zcW (i+1) i v=dlt i v:=Qc (waN i);rw[e,k2];by_cases ev:v=i
      .rw[Qc ev,h1];unfold dlt;rw[Qc ev.symm]
      .rw[Qb ev,k1];unfold dlt;rw[Qb (fun h=>ev h.symm)]
     .rw[Qb e,Qc ⟨by omega,hj⟩]
      congr 2;refine Yk fun v hv=>?_
      unfold zcW;by_cases ej:j<i
      .rw[Qc ej,Qc (by omega)]
      .rw[Qb ej,Qb (by omega)]
    .obtain rfl:i=n:=by omega
     simp only[go_sem];refine⟨.inr rfl,(fun x hx=>by obtain rfl:=Qr.1 hx;trivial),rfl,fun b cs h=>?_⟩;refine wcQ ?_ h;show QB (zae 900100 cJ (fun j=>fnG i (zcW i j)) i++[(900001,rowsC 900100 2 i i)]) b=QB (zae 900100 cJ (fun j=>fnG i (dlt j)) i++[(900001,rowsC 900100 2 i i)]) b;rw[zcE,zcE];by_cases c:900100<=b/\b<900100+i
     .rw[Qc c,Qc c]
      have e:fnG i (zcW i (b-900100))=fnG i (dlt (b-900100)):=Yk fun j _=>by unfold zcW;rw[Qc (by omega)]
      rw[e]
     .rw[Qb c,Qb c]
end Go.Proofs.YtlgjjcmljmjenaaGreat
