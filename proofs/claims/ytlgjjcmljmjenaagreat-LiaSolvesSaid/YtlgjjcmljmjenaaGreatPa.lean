/- At every input the call answers true and leaves its arguments as they were; no conditions. -/
import Derived.Test.YtlgjjcmljmjenaaGreatHb
import Derived.Test.YtlgjjcmljmjenaaGreatHa
import Derived.Test.YtlgjjcmljmjenaaGreatNa
import Derived.Test.YtlgjjcmljmjenaaGreatAe
set_option linter.unusedSimpArgs false
set_option linter.unusedVariables false
set_option maxRecDepth 100000
set_option maxHeartbeats 16000000
namespace Go.Proofs.YtlgjjcmljmjenaaGreat
open Go Go.Abs Go.Proofs.Tryz
abbrev MM:=Int×Bool×List Nat
abbrev LL:=List MM×Bool×List Nat
def cM(m:MM):List T:=[.lit (.int .i64 m.1),.lit (.bool m.2.1),eN m.2.2]
abbrev cL(l:LL):List T:=[eL cM l.1,.lit (.bool l.2.1),eN l.2.2]
abbrev gL(l:LL):TV:=.agg (cL l)
def LLok(l:LL):Prop:=l.1.length<=9223372036854775807/\∀ m∈l.1,-9223372036854775808<=m.1/\m.1<9223372036854775808
def cMn(m:Mn):List T:=[.lit (.int .i64 m.1),.lit (.bool (decide (m.2<0))),eN (dig m.2.natAbs)]
theorem zaV(m:Mn):(cMn m).length=3:=rfl
def eMn(m:Mn):MM:=((m.1:Int),decide (m.2<0),dig m.2.natAbs)
abbrev cF(f:Fm):List T:=[eL cMn f.1,.lit (.bool (decide (f.2<0))),eN (dig f.2.natAbs)]
abbrev eF(f:Fm):TV:=.agg (cF f)
def ZP(f:Fm):LL:=(f.1.map eMn,decide (f.2<0),dig f.2.natAbs)
theorem zjs(l:List Mn):eL cM (l.map eMn)=eL cMn l:=by unfold eL;rw[wac];rfl
theorem zc9(f:Fm):gL (ZP f)=eF f:=by
 show TV.agg [eL cM (f.1.map eMn),_,_]=_;rw[zjs];rfl
def IsM:Int->List MM->Prop
 |_,[]=>True
 |n,m::l=>n<m.1/\IsI m.2.1 m.2.2/\iv m.2.1 m.2.2≠0/\IsM m.1 l
instance decIsM:∀ (n:Int) (l:List MM),Decidable (IsM n l)
 |_,[]=>isTrue trivial
 |n,m::l=>by
  have:=decIsM m.1 l
  unfold IsM;exact inferInstance
def IsL(l:LL):Prop:=IsM (-1) l.1/\IsI l.2.1 l.2.2
instance (l:LL):Decidable (IsL l):=by unfold IsL;exact inferInstance
def dM(m:MM):Mn:=(m.1.toNat,iv m.2.1 m.2.2)
def lv(l:LL):Fm:=if IsL l then(l.1.map dM,iv l.2.1 l.2.2)else([],0)
theorem IsM.back:∀ {l:List MM} {n:Int},-1<=n->IsM n l->(l.map dM).map eMn=l/\WM (n+1).toNat (l.map dM):=by
 intro l
 induction l with
 |nil=>intros;exact⟨rfl,trivial⟩
 |cons m l ih =>
  intro n hn h;obtain⟨h1,h2,h3,h4⟩:=h;obtain⟨i1,i2⟩:=ih (by omega) h4;have e:=zhV h2;have e1:m.2.1=decide (iv m.2.1 m.2.2<0):=by injection e with e;injection e with e1 _;injection e1 with e1;injection e1
  have e2:m.2.2=dig (iv m.2.1 m.2.2).natAbs:=by
   have hN:IsN m.2.2:=h2.1;injection e with e;injection e with _ e2;injection e2 with e2 _
   injection e2 with _ e2
   exact(List.map_inj_right (fun x y e=>by injection e with e _;injection e with e;injection e with _ e;omega)).1 e2
  refine⟨?_,?_⟩
  .rw[waq,waq,i1]
   congr 1;show(((m.1.toNat:Nat):Int),decide (iv m.2.1 m.2.2<0),dig (iv m.2.1 m.2.2).natAbs)=m;rw[<-e1,<-e2,show((m.1.toNat:Nat):Int)=m.1 by omega]
  .refine⟨?_,h3,?_⟩
   .show(n+1).toNat<=m.1.toNat;omega
   .show WM (m.1.toNat+1) _
    rwa[show m.1.toNat+1=(m.1+1).toNat by omega]
theorem zmd{l:LL}(h:IsL l):gL l=eF (lv l):=by
 rw[<-zc9];unfold lv;rw[Qc h];obtain⟨i1,_⟩:=IsM.back (wbi _) h.1;have e:=zhV h.2;injection e with e;injection e with e1 e2;injection e1 with e1;injection e1 with e1;injection e2 with e2 _
 injection e2 with _ e2
 have e2:=(List.map_inj_right (fun x y e=>by injection e with e _;injection e with e;injection e with _ e;omega)).1 e2;have:l=ZP (l.1.map dM,iv l.2.1 l.2.2):=Prod.ext i1.symm (Prod.ext e1 e2);rw[<-this]
theorem zjH(l:LL):WF (lv l):=by
 unfold lv;split
 .rename_i h;exact(IsM.back (wbi _) h.1).2
 .trivial
theorem zwy:∀ {l:List Mn} {n:Nat} {k:Int},k<(n:Int)->WM n l->IsM k (l.map eMn):=by
 intro l
 induction l with
 |nil=>intros;trivial
 |cons m l ih =>
  intro n k hk h;refine⟨?_,zhw _,?_,ih (n:=m.1+1) ?_ h.2.2⟩
  .show k<(m.1:Int);have:=h.1;omega
  .show iv (decide (m.2<0)) (dig m.2.natAbs)≠0;rw[Z2];exact h.2.1
  .show(m.1:Int)<((m.1+1:Nat):Int);omega
theorem zpn{f:Fm}(h:WF f):IsL (ZP f):=⟨zwy (n:=0) (by omega) h,zhw _⟩
theorem zx4(m:Mn):dM (eMn m)=m:=by
 show(((m.1:Int)).toNat,iv (decide (m.2<0)) (dig m.2.natAbs))=m;rw[Z2];rfl
theorem zbR{f:Fm}(h:WF f):lv (ZP f)=f:=by
 unfold lv;rw[Qc (zpn h)];show((f.1.map eMn).map dM,iv (decide (f.2<0)) (dig f.2.natAbs))=f;rw[Z2,wac,show dM ∘ eMn=id from funext zx4,wb0]
def Bd(N L:Nat)(f:Fm):Prop:=f.1.length<=N/\(∀ m∈f.1,m.1<9223372036854775808/\lN m.2<=L)/\lN f.2<=L
theorem Bd.mono{N L N' L':Nat}{f:Fm}(h:Bd N L f)(h1:N<=N')(h2:L<=L'):Bd N' L' f :=
 ⟨Qn h.1 h1,fun m hm=>⟨(h.2.1 m hm).1,Qn (h.2.1 m hm).2 h2⟩,Qn h.2.2 h2⟩
theorem zhe{N L:Nat}:Bd N L ([],0):=⟨Qk _,(fun m hm=>by cases hm),(by show lN 0<=L;rw[ZI];exact Qk _)⟩
theorem zuI{N:Nat}(k:Int):Bd N (lN k) (Ze k):=⟨Qk _,(fun m hm=>by cases hm),Qd _⟩
theorem zlI{N L M K:Nat}{a b:Fm}(ha:Bd N L a)(hb:Bd M K b):Bd (N+M) (max L K+1) (QP a b):=by
 refine⟨Qn zsy (Nat.add_le_add ha.1 hb.1),?_,?_⟩
 .refine zld (p:=fun m=>m.1<9223372036854775808/\lN m.2<=max L K) (fun m h=>⟨h.1,by omega⟩) (fun x y h1 h2 _=>⟨h1.1,?_⟩) (fun m hm=>⟨(ha.2.1 m hm).1,by have:=(ha.2.1 m hm).2;omega⟩) (fun m hm=>⟨(hb.2.1 m hm).1,by have:=(hb.2.1 m hm).2;omega⟩)
  have:=za6 x.2 y.2;show lN (x.2+y.2)<=_;have e1:=h1.2;have e2:=h2.2;omega
 .have:=za6 a.2 b.2
  have h1:=ha.2.2;have h2:=hb.2.2;show lN (a.2+b.2)<=_;omega
theorem zhH{N L:Nat}{a:Fm}(ha:Bd N L a)(c:Int):Bd N (L+lN c) (scF a c):=by
 unfold scF;split
 .exact zhe
 .refine⟨by show(scM c a.1).length<=N;unfold scM;rw[Qm];exact ha.1,fun m hm=>?_,?_⟩
  .obtain⟨x,hx,rfl⟩:=Qp.1 hm
   have:=ZX x.2 c;have h:=ha.2.1 x hx;exact⟨h.1,by show lN (x.2*c)<=_;omega⟩
  .have:=ZX a.2 c
   have h:=ha.2.2;show lN (a.2*c)<=_;omega
def BL(N L:Nat)(l:LL):Prop:=l.1.length<=N/\(∀ m∈l.1,(-9223372036854775808<=m.1/\m.1<9223372036854775808)/\m.2.2.length<=L)/\l.2.2.length<=L
theorem zbp{N L:Nat}{l:LL}(h:BL N L l):Bd N L (lv l):=by
 unfold lv;split
 .refine⟨by show(l.1.map dM).length<=N;rw[Qm];exact h.1,fun m hm=>?_,Qn (zaX _ _) h.2.2⟩
  obtain⟨x,hx,rfl⟩:=Qp.1 hm;have h1:=h.2.1 x hx;exact⟨by show x.1.toNat<_;omega,Qn (zaX _ _) h1.2⟩
 .exact zhe
theorem zbS{N L:Nat}{f:Fm}(h:Bd N L f):BL N L (ZP f):=by
 refine⟨by show(f.1.map eMn).length<=N;rw[Qm];exact h.1,fun m hm=>?_,h.2.2⟩;obtain⟨x,hx,rfl⟩:=Qp.1 hm;have h1:=h.2.1 x hx;refine⟨?_,h1.2⟩;show -9223372036854775808<=(x.1:Int)/\(x.1:Int)<9223372036854775808;omega
theorem ziN{P:Program}{fn:FuncId}{r:Fm->TV}{N L:Nat}{f:Fm}(hw:WF f)(hb:Bd N L f)(h:∀ l:LL,BL N L l->Q9 P fn [gL l] (r (lv l))):Q9 P fn [eF f] (r f):=by
 have:=h (ZP f) (zbS hb)
 rwa[zbR hw,zc9]at this
theorem zip{P:Program}{fn:FuncId}{r:Fm->Fm->TV}{N L:Nat}{f g:Fm}(hw:WF f)(UJ:WF g)(hb:Bd N L f)(hb':Bd N L g)(h:∀ l k:LL,BL N L l->BL N L k->Q9 P fn [gL l,gL k] (r (lv l) (lv k))):Q9 P fn [eF f,eF g] (r f g):=by
 have:=h (ZP f) (ZP g) (zbS hb) (zbS hb')
 rwa[zbR hw,zbR UJ,zc9,zc9]at this
attribute [go_sem] cM cMn
theorem zga:eF ([],0) = .agg [eL cMn [],.lit (.bool false),eN []]:=by
 show TV.agg [_,_,eN (dig (0:Int).natAbs)]=_;rw[show(0:Int).natAbs=0 from rfl,Zi];rfl
theorem l_Is(l:LL)(hl:l.1.length<1000000000)(hb:∀ m∈l.1,m.2.2.length<100000000000)(hk:l.2.2.length<100000000000):Q9 prog 50 [gL l] (tB (decide (IsL l))):=by
 refine QJ QC call50 func50 rfl ntmps50 results50 (by simp) (by decide) ?_;have hK:=zjU l.2.1 l.2.2 (by omega);simp only[go_sem];refine QK (fun p:Nat×Int=>stL 35 [(1,.one (.ptr 1 0)),(3,litI .i64 p.2),(7,.one (.t (eL cM l.1))),(8,litI .i64 l.1.length),(9,litI .i64 p.1)] [(1,[.t (eL cM l.1),.t (.lit (.bool l.2.1)),.t (eN l.2.2)])]) (fun p=>p.1<=l.1.length/\(IsM (-1) l.1↔IsM p.2 (l.1.drop p.1))) (fun p=>l.1.length-p.1) (0,-1) ?_ ⟨Qk _,by rw[wbM]⟩ ?_
 .refine Q7 rfl ?_ ?_ rfl rfl<;>simp only[go_sem]<;>simp
 .rintro⟨i,n⟩ ⟨hi,Y9⟩
  simp only at hi Y9;simp only[go_sem];refine QI (fun Yw=>?_) (fun YG=>?_)
  .have Yv:i<l.1.length:=by omega
   rw[waw Yv]at Y9;have Y1:QM cM l.1 i=cM l.1[i]:=Q8 Yv;have hm:=hb _ (Qh Yv);have h1:=zjU l.1[i].2.1 l.1[i].2.2 (by omega);have h2:=zfi l.1[i].2.1 l.1[i].2.2 (by omega);generalize l.1[i]=m at *
   simp only[go_sem,Y1,Yw];refine⟨by omega,?_⟩;by_cases c1:m.1<=n
   .have e:decide (IsL l)=false:=wad fun h=>by have:=(Y9.1 h.1).1;omega
    rw[e];simp only[go_sem,c1];try rfl
   .simp only[go_sem,c1]
    refine Q3 h1 rfl ?_;by_cases c2:IsI m.2.1 m.2.2
    .simp only[go_sem,c2]
     refine Q3 h2 rfl ?_;by_cases c3:iv m.2.1 m.2.2=0
     .have e:decide (IsL l)=false:=wad fun h=>(Y9.1 h.1).2.2.1 c3
      rw[e,c3];have e0:(0:Int).sign=0:=rfl;simp only[go_sem,e0];try rfl
     .have hne:=zcx c3
      simp only[go_sem,hne];refine⟨(i+1,m.1),⟨Yv,?_⟩,(by show l.1.length-(i+1)<l.1.length-i;omega),?_⟩
      .rw[Y9]
       exact⟨fun h=>h.2.2.2,fun h=>⟨by omega,c2,c3,h⟩⟩
      .refine Q7 rfl ?_ ?_ rfl rfl<;>(iterate 3((try simp only[go_sem]);try simp(disch:=omega)only[Q6]))<;>simp
    .have e:decide (IsL l)=false:=wad fun h=>c2 (Y9.1 h.1).2.1
     rw[e];simp only[go_sem,c2];try rfl
  .obtain rfl:i=l.1.length:=by omega
   rw[wa5]at Y9;have hM:IsM (-1) l.1:=Y9.2 trivial;have e:decide (IsL l)=decide (IsI l.2.1 l.2.2):=wax.2 ⟨fun h=>h.2,fun h=>⟨hM,h⟩⟩;rw[e];simp only[go_sem];refine Q3 hK rfl ?_;simp only[go_sem]
theorem zfn(l:LL)(hl:l.1.length<1000000000)(hb:∀ m∈l.1,m.2.2.length<100000000000)(hk:l.2.2.length<100000000000):Q9 prog 117 [gL l] (eF (lv l)):=by
 refine QJ QC call117 func117 rfl ntmps117 results117 (by simp) (by decide) ?_;have h:=l_Is l hl hb hk;by_cases c:IsL l
 .rw[<-zmd c]
  simp only[go_sem];refine Q3 h rfl ?_;simp only[go_sem,c];exact Zt .t .t .t
 .rw[show lv l=([],0)from Qb c]
  simp only[go_sem];refine Q3 h rfl ?_;simp only[go_sem,c];rw[zga];exact Zt .weak .t .weak
theorem zzf(a b:Fm)(ha:Bd 100000000 10000000000 a)(hb:Bd 100000000 10000000000 b):Q9 prog 163 [eF a,eF b] (eF (QP a b)):=by
 refine QJ QC call163 func163 rfl ntmps163 results163 (by simp) (by decide) ?_;have hk:=zc7 a.2 b.2 (by have:=ha.2.2;omega) (by have:=hb.2.2;omega);simp only[go_sem];refine Q3 hk rfl ?_;simp only[go_sem];refine Q4 0 rfl ?_;simp only[go_sem];refine QK (fun p:List Mn×List Mn×List Mn=>stL 110 [(4,.one (.ptr 4 0)),(5,.one (.ptr 5 0)),(6,.one (.t (eL cMn p.1))),(7,.one (.t (eL cMn p.2.1)))]
   (Zb 1000 cMn p.2.2++[(4,[.t (.seq (some true) []),.t (.lit (.bool false)),.t (.seq (some true) [])]),(5,[QX 1000 3 p.2.2,.t (.lit (.bool (decide (a.2+b.2<0)))),.t (eN (dig (a.2+b.2).natAbs))])]))
  (fun p=>p.2.2++mer p.1 p.2.1=mer a.1 b.1/\p.2.2.length+p.1.length+p.2.1.length<=200000000/\(∀ m∈p.1,m.1<9223372036854775808/\lN m.2<=10000000000)/\(∀ m∈p.2.1,m.1<9223372036854775808/\lN m.2<=10000000000)) (fun p=>p.1.length+p.2.1.length) (a.1,b.1,[]) ?_ ⟨rfl,by have h1:=ha.1;have h2:=hb.1;simp only[Qi];omega,ha.2.1,hb.2.1⟩ ?_
 ·(refine Q7 rfl ?_ ?_ ?_ ?_<;>(try simp only[go_sem])<;>(try simp))
 .rintro⟨x,y,acc⟩ ⟨Yy,Y0,hx,hy⟩
  simp only at Yy Y0 hx hy ⊢;cases x with
  |nil =>
   cases y with
   |nil =>
    rw[zcD,wal]at Yy;simp only[go_sem];have e:eF (QP a b) = .agg [eL cMn acc,.lit (.bool (decide (a.2+b.2<0))),eN (dig (a.2+b.2).natAbs)]:=by rw[Yy];rfl
    rw[e];refine Zt (zdX zaV ?_) .t .t;by_cases h:acc=[]
    .exact .inl h
    .right
     show(if(1000:Nat)=4 then _ else _)=_;cases acc with
     |nil=>exact Qo rfl h
     |cons z zs=>rfl
   |cons v y =>
    simp only[go_sem];refine Q4 2 rfl ?_;simp only[go_sem];refine Q4 2 rfl ?_;simp only[go_sem];refine Q4 2 rfl ?_;simp only[go_sem];refine ZC (sz:=3) (bytes:=40) (by simp only[go_sem,QV]<;>decide) zaV acc [v] (b:=1000) (by simp only[go_sem]<;>rfl) (by simp only[go_sem]<;>rfl) (by simp only[go_sem]<;>rfl) rfl (by simp) (by simp only[Qe,Qi]at *;omega) (by decide) ?_;simp only[go_sem];refine⟨Qd _,([],y,acc++[v]),⟨by rw[zcD]at Yy ⊢;rw[<-Yy];simp,by simp only[Qj,Qe,Qi]at *;omega,hx,(fun m hm=>hy m (waj _ hm))⟩,(by simp only[Qe,Qi];omega),?_⟩
    (refine Q7 rfl ?_ ?_ ?_ ?_<;>(try simp only[go_sem])<;>(try simp))
  |cons u x =>
   cases y with
   |nil =>
    simp only[go_sem];refine Q4 2 rfl ?_;simp only[go_sem];refine Q4 2 rfl ?_;simp only[go_sem];refine ZC (sz:=3) (bytes:=40) (by simp only[go_sem,QV]<;>decide) zaV acc [u] (b:=1000) (by simp only[go_sem]<;>rfl) (by simp only[go_sem]<;>rfl) (by simp only[go_sem]<;>rfl) rfl (by simp) (by simp only[Qe,Qi]at *;omega) (by decide) ?_;simp only[go_sem];refine⟨Qd _,(x,[],acc++[u]),⟨by rw[zc0]at Yy ⊢;rw[<-Yy];simp,by simp only[Qj,Qe,Qi]at *;omega,(fun m hm=>hx m (waj _ hm)),hy⟩,(by simp only[Qe,Qi];omega),?_⟩
    (refine Q7 rfl ?_ ?_ ?_ ?_<;>(try simp only[go_sem])<;>(try simp))
   |cons v y =>
    rw[zao]at Yy;have ST:=hx u (wam ..);have GO:=hy v (wam ..);by_cases c1:u.1<v.1
    .rw[Qc c1]at Yy
     have c1':((u.1:Int)<(v.1:Int))=True:=Qf (by omega);simp only[go_sem];refine Q4 2 rfl ?_;simp only[go_sem,c1'];refine Q4 2 rfl ?_;simp only[go_sem];refine ZC (sz:=3) (bytes:=40) (by simp only[go_sem,QV]<;>decide) zaV acc [u] (b:=1000) (by simp only[go_sem]<;>rfl) (by simp only[go_sem]<;>rfl) (by simp only[go_sem]<;>rfl) rfl (by simp) (by simp only[Qe,Qi]at *;omega) (by decide) ?_;simp only[go_sem];refine⟨Qd _,(x,v::y,acc++[u]),⟨by rw[<-Yy];simp,by simp only[Qj,Qe,Qi]at *;omega,(fun m hm=>hx m (waj _ hm)),hy⟩,(by simp only[Qe];omega),?_⟩
     (refine Q7 rfl ?_ ?_ ?_ ?_<;>(try simp only[go_sem])<;>(try simp))
    .rw[Qb c1]at Yy
     have c1':((u.1:Int)<(v.1:Int))=False:=Ql (by omega);by_cases c2:v.1<u.1
     .rw[Qc c2]at Yy
      have c2':((v.1:Int)<(u.1:Int))=True:=Qf (by omega);simp only[go_sem];refine Q4 2 rfl ?_;simp only[go_sem,c1'];refine Q4 2 rfl ?_;simp only[go_sem,c2'];refine Q4 2 rfl ?_;simp only[go_sem];refine ZC (sz:=3) (bytes:=40) (by simp only[go_sem,QV]<;>decide) zaV acc [v] (b:=1000) (by simp only[go_sem]<;>rfl) (by simp only[go_sem]<;>rfl) (by simp only[go_sem]<;>rfl) rfl (by simp) (by simp only[Qe,Qi]at *;omega) (by decide) ?_;simp only[go_sem];refine⟨Qd _,(u::x,y,acc++[v]),⟨by rw[<-Yy];simp,by simp only[Qj,Qe,Qi]at *;omega,hx,(fun m hm=>hy m (waj _ hm))⟩,(by simp only[Qe];omega),?_⟩
      (refine Q7 rfl ?_ ?_ ?_ ?_<;>(try simp only[go_sem])<;>(try simp))
     .rw[Qb c2]at Yy
      have c2':((v.1:Int)<(u.1:Int))=False:=Ql (by omega);have h1:=zc7 u.2 v.2 (by omega) (by omega);have hl:=za6 u.2 v.2;have h2:=zdF (u.2+v.2) (by omega);simp only[go_sem];refine Q4 2 rfl ?_;simp only[go_sem,c1'];refine Q4 2 rfl ?_;simp only[go_sem,c2'];refine Q4 0 rfl ?_;simp only[go_sem];refine Q3 h1 rfl ?_;simp only[go_sem];refine Q3 h2 rfl ?_;by_cases c3:u.2+v.2=0
      .rw[Qc c3]at Yy
       have e0:(0:Int).sign=0:=rfl;rw[c3];simp only[go_sem,e0];refine Q4 2 rfl ?_;simp only[go_sem];refine⟨Qd _,Qd _,(x,y,acc),⟨Yy,by simp only[Qe]at *;omega,(fun m hm=>hx m (waj _ hm)),(fun m hm=>hy m (waj _ hm))⟩,(by simp only[Qe];omega),?_⟩
       (refine Q7 rfl ?_ ?_ ?_ ?_<;>(try simp only[go_sem])<;>(try simp))
      .rw[Qb c3]at Yy
       have hne:=zcx c3;simp only[go_sem,hne];refine Q4 2 rfl ?_;simp only[go_sem];refine ZC (sz:=3) (bytes:=40) (by simp only[go_sem,QV]<;>decide) zaV acc [(u.1,u.2+v.2)] (b:=1000) (by simp only[go_sem]<;>rfl) (by simp only[go_sem]<;>rfl) (by simp only[go_sem]<;>rfl) rfl (by simp) (by simp only[Qe,Qi]at *;omega) (by decide) ?_;simp only[go_sem];refine Q4 2 rfl ?_;simp only[go_sem];refine⟨Qd _,Qd _,(x,y,acc++[(u.1,u.2+v.2)]),⟨by rw[<-Yy];simp,by simp only[Qj,Qe,Qi]at *;omega,(fun m hm=>hx m (waj _ hm)),(fun m hm=>hy m (waj _ hm))⟩,(by simp only[Qe];omega),?_⟩
       (refine Q7 rfl ?_ ?_ ?_ ?_<;>(try simp only[go_sem])<;>(try simp))
theorem zuV(f:Fm)(hw:WF f)(hb:Bd 900000000 90000000000 f):Q9 prog 117 [eF f] (eF f) :=
 ziN (r:=eF) hw hb fun l hl=>zfn l (by have:=hl.1;omega) (fun m hm=>by have:=(hl.2.1 m hm).2;omega) (by have:=hl.2.2;omega)
def zcl(l:List Fm):Fm:=l.foldl QP ([],0)
theorem ztu(l:List Fm)(f:Fm):zcl (l++[f])=QP (zcl l) f:=by unfold zcl;rw[wcd];rfl
theorem zwI{N L:Nat}:∀ {l:List Fm},(∀ f∈l,Bd N L f)->Bd (l.length*N) (L+l.length) (zcl l):=by
 intro l
 suffices ∀ (l:List Fm) (M K:Nat) (g:Fm),L<=K->Bd M K g->(∀ f∈l,Bd N L f)->Bd (M+l.length*N) (K+l.length) (l.foldl QP g)from
  fun h=>(this l 0 L _ (Qd _) zhe h).mono (by omega) (Qd _)
 intro l
 induction l with
 |nil=>intro M K g _ hg _;exact hg.mono (by omega) (by omega)
 |cons f l ih =>
  intro M K g hK hg h;refine(ih (M+N) (K+1) _ (by omega) ((zlI hg (h f (wam ..))).mono (Qd _) (by omega)) (fun f hf=>h f (waj _ hf))).mono ?_ ?_
  .simp only[Qe,war];omega
  .simp only[Qe];omega
attribute [go_sem] cL
theorem zrr(ls:List LL)(n:Nat)(hn:ls.length<=n)(Gp:n<=10)(N L:Nat)(hN:N<=1000000)(hL:L<=5000000000)(hb:∀ l∈ls,BL N L l):Q9 prog 135 [.one (eL cL ls)] (eF (zcl (ls.map lv))):=by
 refine QJ QC call135 func135 rfl ntmps135 results135 (by simp) (by decide) ?_;simp only[go_sem];have YJ:∀ k,Bd (n*N) (L+n) (zcl ((ls.take k).map lv)):=fun k =>
  (zwI (l:=(ls.take k).map lv) (N:=N) (L:=L) fun f hf=>by
   obtain⟨l,hl,rfl⟩:=Qp.1 hf;exact zbp (hb l (waQ hl))).mono (by rw[Qm,wat];exact wak _ (by omega)) (by rw[Qm,wat];omega)
 have SG:n*N<=10000000:=Qn (waB Gp hN) (by decide);refine QK (fun i:Nat=>stL 18 [(2,.one (.ptr 2 0)),(3,.one (.ptr 3 0)),(6,.one (.t (eL cL ls))),(7,litI .i64 ls.length),(8,litI .i64 i)] [(2,[.t (.seq (some true) []),.t (.lit (.bool false)),.t (.seq (some true) [])]),(3,(cF (zcl ((ls.take i).map lv))).map .t)]) (fun i=>i<=ls.length) (fun i=>ls.length-i) 0 ?_ (Qk _) ?_
 .have e0:(cF (zcl ((ls.take 0).map lv))).map C.t=[.t (eL cMn []),.t (.lit (.bool false)),.t (eN [])]:=by
   rw[wao];show[C.t (eL cMn []),C.t (T.lit (Value.bool (decide ((0:Int)<0)))),C.t (eN (dig (0:Int).natAbs))]=_;rw[show(0:Int).natAbs=0 from rfl,Zi];rfl
  rw[e0];refine GStep.trans (zar 3 (cs:=[.t (.seq (some true) []),.t (.lit (.bool false)),.t (.seq (some true) [])]) (by simp only[go_sem]) (.cons .seq (.cons .refl (.cons .seq .nil)))) ?_;refine Q7 rfl ?_ ?_ rfl rfl<;>simp only[go_sem]<;>(try simp)<;>(try exact⟨rfl,rfl⟩)
 .intro i hi
  simp only[go_sem];refine QI (fun Yw=>?_) (fun YG=>?_)
  .have Yv:i<ls.length:=by omega
   have Y1:QM cL ls i=cL ls[i]:=Q8 Yv;have hm:=hb _ (Qh Yv);have h1:=zfn ls[i] (by have:=hm.1;omega) (fun m h=>by have:=(hm.2.1 m h).2;omega) (by have:=hm.2.2;omega);have h2:=zzf (zcl ((ls.take i).map lv)) (lv ls[i]) ((YJ i).mono (by omega) (by omega)) ((zbp hm).mono (by omega) (by omega));have e:QP (zcl ((ls.take i).map lv)) (lv ls[i])=zcl ((ls.take (i+1)).map lv):=by rw[Zd Yv,waG,<-ztu];rfl
   rw[e]at h2;generalize ls[i]=m at *
   generalize zcl ((ls.take i).map lv)=g at *
   simp only[go_sem,Y1,Yw];refine⟨by omega,?_⟩;refine Q4 0 rfl ?_;simp only[go_sem];refine Q3 h1 rfl ?_;simp only[go_sem];refine Q3 h2 rfl ?_;simp only[go_sem];refine⟨i+1,Yv,(by show ls.length-(i+1)<ls.length-i;omega),?_⟩
   (refine Q7 rfl ?_ ?_ ?_ ?_<;>(try simp only[go_sem,Q6 (n:=(i:Int)+1) (by omega) (by omega)])<;>(try simp))
  .obtain rfl:i=ls.length:=by omega
   rw[Q1];simp only[go_sem];exact Zt .t .t .t
theorem znN(a b:LL):zcl ([a,b].map lv)=QP (lv a) (lv b):=by
 show QP (QP ([],0) (lv a)) (lv b)=_;rw[zrQ]
theorem zma(a b:LL){N L:Nat}(hN:N<=1000000)(hL:L<=5000000000)(ha:BL N L a)(hb:BL N L b):Q9 prog 85 [gL a,gL b] (eF (QP (lv a) (lv b))):=by
 refine QJ QC call85 func85 rfl ntmps85 results85 (by simp) (by decide) ?_;have h:=zrr [a,b] 2 (by simp) (by decide) N L hN hL (fun l hl=>by
  rcases wab.1 hl with rfl|hl
  .exact ha
  .obtain rfl:=Qr.1 hl;exact hb)
 rw[znN]at h;simp only[go_sem];refine zna (by simp only[go_sem]<;>decide) ?_;simp only[go_sem];refine zf9 (tvs':=[.one (.seq (some false) [cL a,cL b])]) h rfl (.cons fzW .nil) ?_;simp only[go_sem];exact Zt .t .t .t
theorem zo3(f g:Fm){N L:Nat}(hN:N<=1000000)(hL:L<=5000000000)(wf:WF f)(wg:WF g)(hf:Bd N L f)(hg:Bd N L g):Q9 prog 85 [eF f,eF g] (eF (QP f g)) :=
 zip (r:=fun f g=>eF (QP f g)) wf wg hf hg fun l k hl hk=>zma l k hN hL hl hk
theorem zv3(s:Bool)(a:List Nat)(ha:a.length<100000000000):Q9 prog 84 [gI s a] (eF (Ze (iv s a))):=by
 refine QJ QC call84 func84 rfl ntmps84 results84 (by simp) (by decide) ?_;have h:=zhm s a (by omega);simp only[go_sem];((repeat(refine Q4 0 rfl ?_;simp only[go_sem]));refine Q3 (h) rfl ?_;simp only[go_sem];(repeat(refine Q4 0 rfl ?_;simp only[go_sem])));exact Zt .weak .t .t
theorem zeR(k:Int)(hk:lN k<100000000000):Q9 prog 84 [eI k] (eF (Ze k)):=by
 have:=zv3 (decide (k<0)) (dig k.natAbs) hk;rwa[Z2]at this
theorem zre(v:Int)(h1 : -9223372036854775808<=v)(h2:v<9223372036854775808):Q9 prog 87 [tI .i64 v] (eF (Z7 v.toNat)):=by
 refine QJ QC call87 func87 rfl ntmps87 results87 (by simp) (by decide) ?_;have h:=zbP 1 (by decide) (by decide);obtain⟨u1,WC⟩:∃ c:Int,c=1:=⟨_,rfl⟩
 have e:eF (Z7 v.toNat) = .agg [.seq none [[.lit (.int .i64 (v.toNat:Int)),.lit (.bool (decide (u1<0))),eN (dig u1.natAbs)]],.lit (.bool (decide ((0:Int)<0))),eN (dig (0:Int).natAbs)]:=by rw[WC];rfl
 have e2:dig (0:Int).natAbs=[]:=Zi;rw[e,e2];have h:Q9 prog 106 [tI .i64 1] (eI u1):=by rw[WC];exact h
 clear WC;simp only[go_sem];refine zdK rfl (by simp only[go_sem]<;>rfl) (by simp only[go_sem]<;>rfl) (Qd _) ?_;have e3:(if(0:Int)>v then(0:Int)else v)=(v.toNat:Int):=by split<;>omega
 simp only[go_sem,e3];((repeat(refine Q4 0 rfl ?_;simp only[go_sem]));refine Q3 (h) rfl ?_;simp only[go_sem];(repeat(refine Q4 0 rfl ?_;simp only[go_sem])));exact Zt .weak .t .weak
theorem zn5{c:Int}{l:List Mn}{i:Nat}(h:i<l.length):(scM c l).take (i+1)=(scM c l).take i++[(l[i].1,l[i].2*c)]:=by
 have h':i<(scM c l).length:=by unfold scM;rwa[Qm]
 rw[Zd h'];congr 2;simp only[scM,Qq]
theorem zi7{c:Int}{l:List Mn}:(scM c l).length=l.length:=by unfold scM;rw[Qm]
theorem zhr{a:Fm}{c:Int}(h:c≠0):scF a c=(scM c a.1,a.2*c):=by unfold scF;rw[Qb h]
theorem zpl{a:Fm}:scF a 0=([],0):=by unfold scF;rw[Qc rfl]
theorem zpm(a:LL)(s:Bool)(c:List Nat){N L:Nat}(hN:N<=1000000)(hL:L<=90000000000)(ha:BL N L a)(hc:c.length<100000000000):Q9 prog 86 [gL a,gI s c] (eF (scF (lv a) (iv s c))):=by
 refine QJ QC call86 func86 rfl ntmps86 results86 (by simp) (by decide) ?_;have h1:=zfn a (by have:=ha.1;omega) (fun m hm=>by have:=(ha.2.1 m hm).2;omega) (by have:=ha.2.2;omega);have h2:=zfi s c (by omega);have YJ:=zbp ha;generalize lv a=f at *
 simp only[go_sem];refine Q3 h1 rfl ?_;simp only[go_sem];refine Q3 h2 rfl ?_;by_cases hz:iv s c=0
 .have e0:(0:Int).sign=0:=rfl
  rw[hz,zpl,zga];simp only[go_sem,e0];exact Zt .weak .t .weak
 .have hne:=zcx hz
  rw[zhr hz];have Rq:=zaX s c;have mul:∀ x:Int,lN x<=L->Q9 prog 136 [eI x,gI s c] (eI (x*iv s c)):=fun x hx=>by
   have:=zmi (decide (x<0)) (dig x.natAbs) s c (by unfold lN at hx;omega) (by omega)
   rwa[Z2]at this
  have h3:=mul f.2 YJ.2.2;generalize iv s c=k at *
  simp only[go_sem,hne];refine Q3 h3 rfl ?_;simp only[go_sem];refine QK (fun i:Nat=>stL 40 [(3,.one (.ptr 3 0)),(4,.one (.ptr 4 0)),(5,.one (.ptr 5 0)),(20,.one (.t (eL cMn f.1))),(21,litI .i64 f.1.length),(22,litI .i64 i)]
    (Zb 1000 cMn ((scM k f.1).take i)++[(3,[.t (.lit (.bool s)),.t (eN c)]),(4,[.t (.seq (some true) []),.t (.lit (.bool false)),.t (.seq (some true) [])]),(5,[QX 1000 3 ((scM k f.1).take i),.t (.lit (.bool (decide (f.2*k<0)))),.t (eN (dig (f.2*k).natAbs))])]))
   (fun i=>i<=f.1.length) (fun i=>f.1.length-i) 0 ?_ (Qk _) ?_
  .rw[wao]
   (refine Q7 rfl ?_ ?_ ?_ ?_<;>(try simp only[go_sem])<;>(try simp))
  .intro i hi
   simp only[go_sem];refine QI (fun Yw=>?_) (fun YG=>?_)
   .have Yv:i<f.1.length:=by omega
    have Y1:QM cMn f.1 i=cMn f.1[i]:=Q8 Yv;have hm:=mul _ (YJ.2.1 _ (Qh Yv)).2;have hv:=(YJ.2.1 _ (Qh Yv)).1;have Yx:=zn5 (c:=k) Yv;have Rp:((scM k f.1).take i).length=i:=by rw[wat,zi7];omega
    have Y0:=YJ.1;generalize f.1[i]=m at *
    generalize (scM k f.1).take i=acc at *
    simp only[go_sem,Y1,Yw];refine⟨by omega,?_⟩;refine Q4 0 rfl ?_;simp only[go_sem];refine Q3 hm rfl ?_;simp only[go_sem];refine ZC (sz:=3) (bytes:=40) (by simp only[go_sem,QV]<;>decide) zaV acc [(m.1,m.2*k)] (b:=1000) (by simp only[go_sem]<;>rfl) (by simp only[go_sem]<;>rfl) (by simp only[go_sem]<;>rfl) rfl (by simp) (by simp only[Qe,Qi]at *;omega) (by decide) ?_;simp only[go_sem];refine⟨i+1,Yv,(by show f.1.length-(i+1)<f.1.length-i;omega),?_⟩
    (refine Q7 rfl ?_ ?_ ?_ ?_<;>(try simp only[go_sem,Yx,Q6 (n:=(i:Int)+1) (by omega) (by omega)])<;>(try simp))
   .obtain rfl:i=f.1.length:=by omega
    rw[show f.1.length=(scM k f.1).length from zi7.symm,Q1];simp only[go_sem];refine Zt (zdX zaV ?_) .t .t;cases h:scM k f.1 with
    |nil=>exact .inl rfl
    |cons z zs=>right;rfl
theorem zkn(f:Fm)(c:Int){N L:Nat}(hN:N<=1000000)(hL:L<=90000000000)(wf:WF f)(hf:Bd N L f)(hc:lN c<100000000000):Q9 prog 86 [eF f,eI c] (eF (scF f c)):=by
 have:=zpm (ZP f) (decide (c<0)) (dig c.natAbs) hN hL (zbS hf) hc
 rwa[zbR wf,Z2,zc9]at this
theorem ztk(a:LL)(c:Int){N L:Nat}(hN:N<=1000000)(hL:L<=90000000000)(ha:BL N L a)(hc:lN c<100000000000):Q9 prog 86 [gL a,eI c] (eF (scF (lv a) c)):=by
 have:=zpm a (decide (c<0)) (dig c.natAbs) hN hL ha hc
 rwa[Z2]at this
theorem zrk(a b:LL){N L:Nat}(hN:N<=1000000)(hL:L<=4000000000)(ha:BL N L a)(hb:BL N L b):Q9 prog 165 [gL a,gL b] (eF (QP (lv a) (scF (lv b) (-1)))):=by
 refine QJ QC call165 func165 rfl ntmps165 results165 (by simp) (by decide) ?_;have UC:lN (-1)<=1:=zch (by decide);have ho:=zbP (-1) (by decide) (by decide);have hs:=ztk b (-1) hN (by omega) hb (by omega);have O7:BL N (L+1) (ZP (scF (lv b) (-1))):=zbS ((zhH (zbp hb) (-1)).mono (Qd _) (by omega));have h:=zrr [a,ZP (scF (lv b) (-1))] 2 (by simp) (by decide) N (L+1) hN (by omega) (fun l hl=>by
  rcases wab.1 hl with rfl|hl
  .exact⟨ha.1,fun m hm=>⟨(ha.2.1 m hm).1,by have:=(ha.2.1 m hm).2;omega⟩,by have:=ha.2.2;omega⟩
  .obtain rfl:=Qr.1 hl;exact O7)
 rw[znN,zbR (zbC (zjH b) _)]at h;have e:eL cL [a,ZP (scF (lv b) (-1))] = .seq none [cL a,cF (scF (lv b) (-1))]:=by
  show T.seq none [cL a,[eL cM ((scF (lv b) (-1)).1.map eMn),_,_]]=_;rw[zjs];rfl
 rw[e]at h;generalize scF (lv b) (-1)=g at *
 obtain⟨u1,WC⟩:∃ c:Int,c = -1:=⟨_,rfl⟩
 have ho:Q9 prog 106 [tI .i64 (-1)] (eI u1):=by rw[WC];exact ho
 rw[<-WC]at hs;clear WC;simp only[go_sem];((repeat(refine Q4 0 rfl ?_;simp only[go_sem]));refine Q3 (ho) rfl ?_;simp only[go_sem];(repeat(refine Q4 0 rfl ?_;simp only[go_sem]));refine Q3 (hs) rfl ?_;simp only[go_sem];(repeat(refine Q4 0 rfl ?_;simp only[go_sem])));refine zna (by simp only[go_sem]<;>decide) ?_;simp only[go_sem];refine zf9 (tvs':=[.one (.seq (some false) [cL a,cF g])]) h rfl (.cons fzW .nil) ?_;simp only[go_sem];exact Zt .t .t .t
def coI:List Mn->Int->Int
 |[],_=>0
 |m::l,v=>if(m.1:Int)=v then m.2 else coI l v
theorem zwv(l:List Mn)(v:Nat):coI l v=coM l v:=by
 induction l with
 |nil=>rfl
 |cons m l ih=>unfold coI coM;rw[ih];split<;>split<;>first|rfl|omega
theorem zx3(a:LL)(v:Int){N L:Nat}(hN:N<=1000000)(hL:L<=90000000000)(ha:BL N L a):Q9 prog 144 [gL a,tI .i64 v] (eI (coI (lv a).1 v)):=by
 refine QJ QC call144 func144 rfl ntmps144 results144 (by simp) (by decide) ?_;have h1:=zfn a (by have:=ha.1;omega) (fun m hm=>by have:=(ha.2.1 m hm).2;omega) (by have:=ha.2.2;omega);have YJ:=zbp ha;generalize lv a=f at *
 have Y0:=YJ.1;simp only[go_sem];refine Q3 h1 rfl ?_;simp only[go_sem];refine QK (fun i:Nat=>stL 23 [(1,litI .i64 v),(4,.one (.ptr 4 0)),(9,.one (.t (eL cMn f.1))),(10,litI .i64 f.1.length),(11,litI .i64 i)] [(4,[.t (.lit (.bool false)),.t (.seq (some true) [])])])
  (fun i=>i<=f.1.length/\coI f.1 v=coI (f.1.drop i) v) (fun i=>f.1.length-i) 0 ?_ ⟨Qk _,by rw[wbM]⟩ ?_
 ·(refine Q7 rfl ?_ ?_ ?_ ?_<;>(try simp only[go_sem])<;>(try simp))
 .rintro i ⟨hi,Yy⟩
  simp only[go_sem];refine QI (fun Yw=>?_) (fun YG=>?_)
  .have Yv:i<f.1.length:=by omega
   have Y1:QM cMn f.1 i=cMn f.1[i]:=Q8 Yv;rw[waw Yv]at Yy;obtain⟨R,hR⟩:∃ R,R=coI f.1 v:=⟨_,rfl⟩
   rw[<-hR]at Yy ⊢;unfold coI at Yy;generalize f.1[i]=m at *
   simp only[go_sem,Y1,Yw];refine⟨by omega,?_⟩;by_cases c:(m.1:Int)=v
   .rw[Qc c]at Yy
    have c':((m.1:Int)=v)=True:=Qf c;rw[Yy];simp only[go_sem,c'];exact Zk .t .t
   .rw[Qb c]at Yy
    have c':((m.1:Int)=v)=False:=Ql c;simp only[go_sem,c'];refine⟨i+1,⟨Yv,Yy⟩,(by show f.1.length-(i+1)<f.1.length-i;omega),?_⟩
    (refine Q7 rfl ?_ ?_ ?_ ?_<;>(try simp only[go_sem,Q6 (n:=(i:Int)+1) (by omega) (by omega)])<;>(try simp))
  .obtain rfl:i=f.1.length:=by omega
   rw[wa5]at Yy;rw[Yy,show coI [] v=0 from rfl,zlF];simp only[go_sem];exact Zk .t .weak
theorem zuH(f:Fm)(v:Int){N L:Nat}(hN:N<=1000000)(hL:L<=90000000000)(wf:WF f)(hf:Bd N L f):Q9 prog 144 [eF f,tI .i64 v] (eI (coI f.1 v)):=by
 have:=zx3 (ZP f) v hN hL (zbS hf)
 rwa[zbR wf,zc9]at this
def ptX(x:List (Bool×List Nat))(v:Nat):Int:=match x[v]? with|some q=>iv q.1 q.2|none=>0
theorem zla(l:List Mn)(m:Mn)(p:Nat->Int):atM (l++[m]) p=atM l p+m.2*p m.1:=by
 induction l with
 |nil=>show m.2*p m.1+0=0+_;omega
 |cons x l ih=>show x.2*p x.1+atM (l++[m]) p=x.2*p x.1+atM l p+_;rw[ih];omega
theorem zhX{N L K:Nat}{f:Fm}(h:Bd N L f){p:Nat->Int}(hp:∀ v,lN (p v)<=K)(i:Nat):lN (f.2+atM (f.1.take i) p)<=L+K+i:=by
 induction i with
 |zero=>rw[wao];show lN (f.2+0)<=_;rw[wa9];have:=h.2.2;omega
 |succ i ih =>
  by_cases hi:i<f.1.length
  .rw[Zd hi,zla,<-wdP]
   have h1:=za6 (f.2+atM (f.1.take i) p) (f.1[i].2*p f.1[i].1);have h2:=ZX f.1[i].2 (p f.1[i].1);have h3:=(h.2.1 _ (Qh hi)).2;have h4:=hp f.1[i].1;omega
  .rw[waL (by omega)]at ih ⊢
   omega
theorem zrc{x:List (Bool×List Nat)}{K:Nat}(h:∀ q∈x,q.2.length<=K)(v:Nat):lN (ptX x v)<=K:=by
 unfold ptX;split
 .rename_i q hq
  exact Qn (zaX _ _) (h q (wdm hq))
 .rw[ZI];exact Qk _
def gM(l:List Mn):Nat:=gAll (l.map fun m=>(decide (m.2<0),dig m.2.natAbs))
theorem zqd(l:List Mn)(m:Mn):gM (l++[m])=Int.gcd (gM l:Int) m.2:=by
 unfold gM;rw[waG];show gAll (_++[_])=_;rw[znK,Z2,wcL];rfl
theorem zyQ{N L:Nat}{f:Fm}(h:Bd N L f)(i:Nat):(dig (gM (f.1.take i))).length<=L:=zo1 _ fun p hp=>by
 obtain⟨m,hm,rfl⟩:=Qp.1 hp;exact(h.2.1 m (waQ hm)).2
def cIm(m:Mn):List T:=[.lit (.bool (decide (m.2<0))),eN (dig m.2.natAbs)]
theorem zqe(m:Mn):(cIm m).length=2:=rfl
theorem zyR(l:List Mn):eL cI (l.map fun m=>(decide (m.2<0),dig m.2.natAbs))=eL cIm l:=by unfold eL;rw[wac];rfl
theorem zzB(a:LL){N L:Nat}(hN:N<=1000000)(hL:L<=9000000000)(ha:BL N L a):Q9 prog 115 [gL a] (eI (gM (lv a).1:Int)):=by
 refine QJ QC call115 func115 rfl ntmps115 results115 (by simp) (by decide) ?_;have h1:=zfn a (by have:=ha.1;omega) (fun m hm=>by have:=(ha.2.1 m hm).2;omega) (by have:=ha.2.2;omega);have YJ:=zbp ha;generalize lv a=f at *
 have Y0:=YJ.1;have h2:=zyU (f.1.map fun m=>(decide (m.2<0),dig m.2.natAbs)) (by rw[Qm];omega) (fun p hp=>by obtain⟨m,hm,rfl⟩:=Qp.1 hp;have:=(YJ.2.1 m hm).2;unfold lN at this;show(dig m.2.natAbs).length<_;omega);change Q9 _ _ [.one (eL cI _)] (eI (gM f.1:Int))at h2;rw[zyR]at h2;simp only[go_sem];refine Q3 h1 rfl ?_;simp only[go_sem];refine QK (fun i:Nat=>stL 22 [(2,.one (.ptr 2 0)),(3,zaf 1000 2 (f.1.take i)),(8,.one (.t (eL cMn f.1))),(9,litI .i64 f.1.length),(10,litI .i64 i)]
   (Zb 1000 cIm (f.1.take i)++[(2,[.t (.lit (.bool false)),.t (.seq (some true) [])])])) (fun i=>i<=f.1.length) (fun i=>f.1.length-i) 0 ?_ (Qk _) ?_
 .rw[wao]
  (refine Q7 rfl ?_ ?_ ?_ ?_<;>(try simp only[go_sem])<;>(try simp))
 .intro i hi
  simp only[go_sem];refine QI (fun Yw=>?_) (fun YG=>?_)
  .have Yv:i<f.1.length:=by omega
   have Y1:QM cMn f.1 i=cMn f.1[i]:=Q8 Yv;have Rp:(f.1.take i).length=i:=by rw[wat];omega
   have Yx:=Zd Yv;generalize f.1[i]=m at *
   generalize f.1.take i=acc at *
   simp only[go_sem,Y1,Yw];refine⟨by omega,?_⟩;refine ZC (sz:=2) (bytes:=32) (by simp only[go_sem,QV]<;>decide) zqe acc [m] (b:=1000) (by simp only[go_sem]<;>rfl) (by simp only[go_sem]<;>rfl) (by simp only[go_sem]<;>rfl) rfl (by simp) (by simp only[Qe,Qi]at *;omega) (by decide) ?_;simp only[go_sem];refine⟨i+1,Yv,(by show f.1.length-(i+1)<f.1.length-i;omega),?_⟩
   (refine Q7 rfl ?_ ?_ ?_ ?_<;>(try simp only[go_sem,Yx,Q6 (n:=(i:Int)+1) (by omega) (by omega)])<;>(try simp))
  .obtain rfl:i=f.1.length:=by omega
   rw[Q1];cases hf:f.1 with
   |nil =>
    rw[hf]at h2;simp only[go_sem];refine zf9 (tvs':=[.one (.seq (some true) [])]) h2 rfl (.cons fzW .nil) ?_;simp only[go_sem];exact Zk .t .t
   |cons z zs =>
    rw[hf]at h2;simp only[go_sem];refine zbM 1000 2 (zs.length+1) rfl h2 (by simp only[go_sem]<;>rfl) (Yl (f:=cIm) (xs:=z::zs) zqe) ?_ ?_
    .simp only[go_sem,zkC]<;>rfl
    .simp only[go_sem]
     exact Zk .t .t
theorem zzn(l:LL)(hl:l.1.length<1000000000)(hb:∀ m∈l.1,m.2.2.length<100000000000)(hk:l.2.2.length<100000000000):Q9 prog 12 [gL l] (tB (decide (IsL l))):=by
 refine QJ QC call12 func12 rfl ntmps12 results12 (by simp) (by decide) ?_;have hK:=zjY l.2.1 l.2.2 (by omega);simp only[go_sem];refine QK (fun p:Nat×Int=>stL 51 [(1,.one (.ptr 1 0)),(3,litI .i64 p.1)] [(1,[.t (eL cM l.1),.t (.lit (.bool l.2.1)),.t (eN l.2.2)])])
  (fun p=>p.1<=l.1.length/\(IsM (-1) l.1↔IsM p.2 (l.1.drop p.1))/\(p.1=0/\p.2 = -1\/0<=p.2/\∃ j,∃ h:j<l.1.length,p.1=j+1/\l.1[j].1=p.2)) (fun p=>l.1.length-p.1) (0,-1) ?_ ⟨Qk _,by rw[wbM],.inl ⟨rfl,rfl⟩⟩ ?_
 ·(refine Q7 rfl ?_ ?_ ?_ ?_<;>(try simp only[go_sem])<;>(try simp))
 .rintro⟨i,n⟩ ⟨hi,Y9,YF⟩
  simp only at hi Y9 YF;simp only[go_sem];refine QI (fun Yw=>?_) (fun YG=>?_)
  .have Yv:i<l.1.length:=by omega
   rw[waw Yv]at Y9;have Y1:QM cM l.1 i=cM l.1[i]:=Q8 Yv;have hm:=hb _ (Qh Yv);have h1:=zjY l.1[i].2.1 l.1[i].2.2 (by omega);have h2:=zlJ l.1[i].2.1 l.1[i].2.2 (by omega);have Uk:(l.1[i].1:Int)=l.1[i].1:=rfl;have Xs:∀ (h:0<=l.1[i].1),0<=l.1[i].1/\∃ j,∃ h:j<l.1.length,i+1=j+1/\l.1[j].1=l.1[i].1:=fun h=>⟨h,i,Yv,rfl,rfl⟩
   generalize l.1[i]=m at *
   have bad:¬n<m.1->decide (IsL l)=false:=fun h=>wad fun hh=>h (Y9.1 hh.1).1
   have rest:∀ {σ:St} {Q:Exit->St->Prop} {c:Code},True:=trivial;have Ei : -1<=n:=by rcases YF with⟨_,h⟩|⟨h,_⟩<;>omega
   by_cases c0:m.1<0
   .rw[bad (by clear YF Xs;omega)]
    have c0':(m.1<0)=True:=Qf c0;simp only[go_sem,Y1,Yw];refine⟨by omega,?_⟩;refine Q4 0 rfl ?_;simp only[go_sem,c0'];try rfl
   .have c0':(m.1<0)=False:=Ql c0
    by_cases c1:n<m.1
    .have tail:m.1<=n↔False:=⟨fun h=>by omega,False.elim⟩
     rcases YF with⟨rfl,rfl⟩|⟨Xl,j,hj,rfl,hjn⟩
     .simp only[go_sem,Y1]
      refine⟨by omega,?_⟩;refine Q4 0 rfl ?_;simp only[go_sem,c0'];refine Q3 h1 rfl ?_;by_cases c2:IsI m.2.1 m.2.2
      .simp only[go_sem,c2]
       refine Q3 h2 rfl ?_;by_cases c3:iv m.2.1 m.2.2=0
       .have e:decide (IsL l)=false:=wad fun h=>(Y9.1 h.1).2.2.1 c3
        rw[e,c3];have e0:(0:Int).sign=0:=rfl;simp only[go_sem,e0];try rfl
       .have hne:=zcx c3
        simp only[go_sem,hne];refine⟨(0+1,m.1),⟨Yv,?_,.inr (Xs (by omega))⟩,(by show l.1.length-(0+1)<l.1.length-0;omega),?_⟩
        .rw[Y9]
         exact⟨fun h=>h.2.2.2,fun h=>⟨c1,c2,c3,h⟩⟩
        ·(refine Q7 rfl ?_ ?_ ?_ ?_<;>(try simp only[go_sem,show IntKind.wrap .i64 1=1 from rfl])<;>(try simp))
      .have e:decide (IsL l)=false:=wad fun h=>c2 (Y9.1 h.1).2.1
       rw[e];simp only[go_sem,c2];try rfl
     .have Jc:QM cM l.1 j=cM l.1[j]:=Q8 hj
      have c1':(m.1<=l.1[j].1)=False:=Ql (by rw[hjn];omega)
      (iterate 3((try simp only[go_sem,Y1]);try simp(disch:=omega)only[Q6,QE,QG,Q8,Y1,Yw]))
      refine⟨by omega,?_⟩;refine Q4 0 rfl ?_
      (iterate 3((try simp only[go_sem,c0',c1',show(j:Int)+1-1=(j:Int) by omega]);try simp(disch:=omega)only[Q6,Q8]))
      refine⟨by omega,?_⟩;refine Q3 h1 rfl ?_;by_cases c2:IsI m.2.1 m.2.2
      .simp only[go_sem,c2]
       refine Q3 h2 rfl ?_;by_cases c3:iv m.2.1 m.2.2=0
       .have e:decide (IsL l)=false:=wad fun h=>(Y9.1 h.1).2.2.1 c3
        rw[e,c3];have e0:(0:Int).sign=0:=rfl;simp only[go_sem,e0];try rfl
       .have hne:=zcx c3
        (iterate 3((try simp only[go_sem,hne]);try simp(disch:=omega)only[Q6]))
        refine⟨(j+1+1,m.1),⟨Yv,?_,.inr (Xs (by omega))⟩,(by show l.1.length-(j+1+1)<l.1.length-(j+1);omega),?_⟩
        .rw[Y9]
         exact⟨fun h=>h.2.2.2,fun h=>⟨c1,c2,c3,h⟩⟩
        ·(refine Q7 rfl ?_ ?_ ?_ ?_<;>(try simp only[go_sem])<;>(try simp))
      .have e:decide (IsL l)=false:=wad fun h=>c2 (Y9.1 h.1).2.1
       rw[e];simp only[go_sem,c2];try rfl
    .rw[bad c1]
     rcases YF with⟨rfl,rfl⟩|⟨Xl,j,hj,rfl,hjn⟩
     .omega
     .have Jc:QM cM l.1 j=cM l.1[j]:=Q8 hj
      have c1':(m.1<=l.1[j].1)=True:=Qf (by rw[hjn];omega)
      (iterate 3((try simp only[go_sem,Y1]);try simp(disch:=omega)only[Q6,QE,QG,Q8,Y1,Yw]))
      refine⟨by omega,?_⟩;refine Q4 0 rfl ?_
      (iterate 3((try simp only[go_sem,c0',c1',show(j:Int)+1-1=(j:Int) by omega]);try simp(disch:=omega)only[Q6,Q8]))
      refine⟨by omega,?_⟩;omega
  .obtain rfl:i=l.1.length:=by omega
   rw[wa5]at Y9;have hM:IsM (-1) l.1:=Y9.2 trivial;have e:decide (IsL l)=decide (IsI l.2.1 l.2.2):=wax.2 ⟨fun h=>h.2,fun h=>⟨hM,h⟩⟩;rw[e];simp only[go_sem];refine Q3 hK rfl ?_;simp only[go_sem]
theorem zyx(l:LL)(hl:l.1.length<1000000000)(hb:∀ m∈l.1,m.2.2.length<100000000000)(hk:l.2.2.length<100000000000):Q9 prog 66 [gL l] (eF (lv l)):=by
 refine QJ QC call66 func66 rfl ntmps66 results66 (by simp) (by decide) ?_;have h:=zzn l hl hb hk;by_cases c:IsL l
 .rw[<-zmd c]
  simp only[go_sem];refine Q3 h rfl ?_;simp only[go_sem,c];exact Zt .t .t .t
 .rw[show lv l=([],0)from Qb c]
  simp only[go_sem];refine Q3 h rfl ?_;simp only[go_sem,c];rw[zga];exact Zt .weak .t .weak
theorem zjg{N L:Nat}{l:LL}(hN:N<=1000000)(hL:L<=90000000000)(h:BL N L l):Q9 prog 66 [gL l] (eF (lv l)) :=
 zyx l (by have:=h.1;omega) (fun m hm=>by have:=(h.2.1 m hm).2;omega) (by have:=h.2.2;omega)
theorem zvH(s:Bool)(a:List Nat)(ha:a.length<100000000000):Q9 prog 40 [gI s a] (eF (Ze (iv s a))):=by
 refine QJ QC call40 func40 rfl ntmps40 results40 (by simp) (by decide) ?_;have h:=zgE s a (by omega);simp only[go_sem];((repeat(refine Q4 0 rfl ?_;simp only[go_sem]));refine Q3 (h) rfl ?_;simp only[go_sem];(repeat(refine Q4 0 rfl ?_;simp only[go_sem])));exact Zt .weak .t .t
theorem zsX(k:Int)(hk:lN k<100000000000):Q9 prog 40 [eI k] (eF (Ze k)):=by
 have:=zvH (decide (k<0)) (dig k.natAbs) hk;rwa[Z2]at this
theorem zyy(v:Int)(h1 : -9223372036854775808<=v)(h2:v<9223372036854775808):Q9 prog 18 [tI .i64 v] (eF (Z7 v.toNat)):=by
 refine QJ QC call18 func18 rfl ntmps18 results18 (by simp) (by decide) ?_;have h:=zgI 1 (by decide) (by decide);obtain⟨u1,WC⟩:∃ c:Int,c=1:=⟨_,rfl⟩
 have e:eF (Z7 v.toNat) = .agg [.seq none [[.lit (.int .i64 (v.toNat:Int)),.lit (.bool (decide (u1<0))),eN (dig u1.natAbs)]],.lit (.bool (decide ((0:Int)<0))),eN (dig (0:Int).natAbs)]:=by rw[WC];rfl
 have e2:dig (0:Int).natAbs=[]:=Zi;rw[e,e2];have h:Q9 prog 22 [tI .i64 1] (eI u1):=by rw[WC];exact h
 clear WC;simp only[go_sem];refine zdK rfl (by simp only[go_sem]<;>rfl) (by simp only[go_sem]<;>rfl) (Qd _) ?_;have e3:(if v>(0:Int)then v else(0:Int))=(v.toNat:Int):=by split<;>omega
 simp only[go_sem,e3];((repeat(refine Q4 0 rfl ?_;simp only[go_sem]));refine Q3 (h) rfl ?_;simp only[go_sem];(repeat(refine Q4 0 rfl ?_;simp only[go_sem])));exact Zt .weak .t .weak
theorem zuU(a:LL)(s:Bool)(c:List Nat){N L:Nat}(hN:N<=1000000)(hL:L<=90000000000)(ha:BL N L a)(hc:c.length<100000000000):Q9 prog 39 [gL a,gI s c] (eF (scF (lv a) (iv s c))):=by
 refine QJ QC call39 func39 rfl ntmps39 results39 (by simp) (by decide) ?_;have h1:=zjg hN hL ha;have h2:=zlJ s c (by omega);have YJ:=zbp ha;generalize lv a=f at *
 have Rq:=zaX s c;have mul:∀ x:Int,lN x<=L->Q9 prog 26 [eI x,gI s c] (eI (x*iv s c)):=fun x hx=>by
  have:=zrd (decide (x<0)) (dig x.natAbs) s c (by unfold lN at hx;omega) (by omega)
  rwa[Z2]at this
 have h3:=mul f.2 YJ.2.2;generalize iv s c=k at *
 simp only[go_sem];refine Q3 h1 rfl ?_;simp only[go_sem];refine Q3 h3 rfl ?_;simp only[go_sem];refine Q3 h2 rfl ?_;by_cases hz:k=0
 .have e0:(0:Int).sign=0:=rfl
  rw[hz,zpl,zga];simp only[go_sem,e0];rw[waF];exact Zt .weak .t (by rw[show(0:Int).natAbs=0 from rfl,Zi];exact .t)
 .have hne:=zcx hz
  rw[zhr hz];simp only[go_sem,hne];refine QK (fun i:Nat=>stL 47 [(3,.one (.ptr 3 0)),(4,.one (.ptr 4 0)),(5,.one (.ptr 5 0)),(6,.one (.ptr 6 0)),(7,litI .i64 i)]
    (Zb 1000 cMn ((scM k f.1).take i)++[(3,[.t (.lit (.bool s)),.t (eN c)]),(4,[.t (.seq (some true) []),.t (.lit (.bool false)),.t (.seq (some true) [])]),(5,(cF f).map .t),(6,[QX 1000 3 ((scM k f.1).take i),.t (.lit (.bool (decide (f.2*k<0)))),.t (eN (dig (f.2*k).natAbs))])]))
   (fun i=>i<=f.1.length) (fun i=>f.1.length-i) 0 ?_ (Qk _) ?_
  .rw[wao]
   (refine Q7 rfl ?_ ?_ ?_ ?_<;>(try simp only[go_sem])<;>(try simp))
  .intro i hi
   simp only[go_sem];refine QI (fun Yw=>?_) (fun YG=>?_)
   .have Yv:i<f.1.length:=by omega
    have Y1:QM cMn f.1 i=cMn f.1[i]:=Q8 Yv;have hm:=mul _ (YJ.2.1 _ (Qh Yv)).2;have hv:=(YJ.2.1 _ (Qh Yv)).1;have Yx:=zn5 (c:=k) Yv;have Rp:((scM k f.1).take i).length=i:=by rw[wat,zi7];omega
    have Y0:=YJ.1;generalize f.1[i]=m at *
    generalize (scM k f.1).take i=acc at *
    simp only[go_sem,Yw];refine Q4 0 rfl ?_;simp only[go_sem,Y1,Yw]
    (repeat(refine Qg (by omega) ?_))
    refine Q3 hm rfl ?_;simp only[go_sem];refine ZC (sz:=3) (bytes:=40) (by simp only[go_sem,QV]<;>decide) zaV acc [(m.1,m.2*k)] (b:=1000) (by simp only[go_sem]<;>rfl) (by simp only[go_sem]<;>rfl) (by simp only[go_sem]<;>rfl) rfl (by simp) (by simp only[Qe,Qi]at *;omega) (by decide) ?_;simp only[go_sem];refine⟨i+1,Yv,(by show f.1.length-(i+1)<f.1.length-i;omega),?_⟩
    (refine Q7 rfl ?_ ?_ ?_ ?_<;>(try simp only[go_sem,Yx,Q6 (n:=(i:Int)+1) (by omega) (by omega)])<;>(try simp))
   .obtain rfl:i=f.1.length:=by omega
    rw[show f.1.length=(scM k f.1).length from zi7.symm,Q1];simp only[go_sem];refine Zt (zdX zaV ?_) .t .t;cases h:scM k f.1 with
    |nil=>exact .inl rfl
    |cons z zs=>right;rfl
theorem zsO(f:Fm)(c:Int){N L:Nat}(hN:N<=1000000)(hL:L<=90000000000)(wf:WF f)(hf:Bd N L f)(hc:lN c<100000000000):Q9 prog 39 [eF f,eI c] (eF (scF f c)):=by
 have:=zuU (ZP f) (decide (c<0)) (dig c.natAbs) hN hL (zbS hf) hc
 rwa[zbR wf,Z2,zc9]at this
theorem zxI(a b:LL){N L:Nat}(hN:N<=1000000)(hL:L<=9000000000)(ha:BL N L a)(hb:BL N L b):Q9 prog 38 [gL a,gL b] (eF (QP (lv a) (lv b))):=by
 refine QJ QC call38 func38 rfl ntmps38 results38 (by simp) (by decide) ?_;have m1:=zjg hN (by omega) ha;have m2:=zjg hN (by omega) hb;have ba:=zbp ha;have bb:=zbp hb;generalize lv a=f at *
 generalize lv b=g at *
 have la:=ba.1;have lb:=bb.1;have hk:=zlb f.2 g.2 (by have:=ba.2.2;omega) (by have:=bb.2.2;omega);simp only[go_sem];refine Q4 0 rfl ?_;simp only[go_sem];((repeat(refine Q4 0 rfl ?_;simp only[go_sem]));refine Q3 (m1) rfl ?_;simp only[go_sem];(repeat(refine Q4 0 rfl ?_;simp only[go_sem]));refine Q3 (m2) rfl ?_;simp only[go_sem];(repeat(refine Q4 0 rfl ?_;simp only[go_sem]));refine Q3 (hk) rfl ?_;simp only[go_sem];(repeat(refine Q4 0 rfl ?_;simp only[go_sem])));refine QK (fun p:Nat×Nat×List Mn=>stL 140 [(4,.one (.ptr 4 0)),(5,.one (.ptr 5 0)),(6,.one (.ptr 6 0)),(7,.one (.ptr 7 0)),(8,litI .i64 p.1),(9,litI .i64 p.2.1)]
   (Zb 1000 cMn p.2.2++[(4,[.t (.seq (some true) []),.t (.lit (.bool false)),.t (.seq (some true) [])]),(5,(cF f).map .t),(6,(cF g).map .t),(7,[QX 1000 3 p.2.2,.t (.lit (.bool (decide (f.2+g.2<0)))),.t (eN (dig (f.2+g.2).natAbs))])]))
  (fun p=>p.1<=f.1.length/\p.2.1<=g.1.length/\p.2.2++mer (f.1.drop p.1) (g.1.drop p.2.1)=mer f.1 g.1/\p.2.2.length<=p.1+p.2.1) (fun p=>(f.1.length-p.1)+(g.1.length-p.2.1)) (0,0,[]) ?_ ⟨Qk _,Qk _,rfl,Qd _⟩ ?_
 ·(refine Q7 rfl ?_ ?_ ?_ ?_<;>(try simp only[go_sem])<;>(try simp))
 .rintro⟨i,k,acc⟩ ⟨hi,RN,Yy,Y0⟩
  simp only at hi RN Yy Y0 ⊢;by_cases ci:i<f.1.length
  .have ci':((i:Int)<(f.1.length:Int))=True:=Qf (by omega)
   have ne':((i:Int)=(f.1.length:Int))=False:=Ql (by omega);have eli:QM cMn f.1 i=cMn f.1[i]:=Q8 ci;have bi:=ba.2.1 _ (Qh ci);rw[waw ci]at Yy;by_cases ck:k<g.1.length
   .have ck':((k:Int)<(g.1.length:Int))=True:=Qf (by omega)
    have nk':((k:Int)=(g.1.length:Int))=False:=Ql (by omega);have elk:QM cMn g.1 k=cMn g.1[k]:=Q8 ck;have bk:=bb.2.1 _ (Qh ck);rw[waw ck,zao]at Yy;have bck:g.1.drop k=g.1[k]::g.1.drop (k+1):=waw ck;have bci:f.1.drop i=f.1[i]::f.1.drop (i+1):=waw ci;generalize f.1[i]=u at *
    generalize g.1[k]=v at *
    by_cases c1:u.1<v.1
    .rw[Qc c1,<-bck]at Yy
     have c1':((u.1:Int)<(v.1:Int))=True:=Qf (by omega);simp only[go_sem,ci'];refine Q4 2 rfl ?_;simp only[go_sem,ci',ck',nk',eli,elk,c1']
     (repeat(refine Qg (by omega) ?_))
     refine Q4 0 rfl ?_;simp only[go_sem,ci',eli]
     (repeat(refine Qg (by omega) ?_))
     refine ZC (sz:=3) (bytes:=40) (by simp only[go_sem,QV]<;>decide) zaV acc [u] (b:=1000) (by simp only[go_sem]<;>rfl) (by simp only[go_sem]<;>rfl) (by simp only[go_sem]<;>rfl) rfl (by simp) (by simp only[Qe,Qi];omega) (by decide) ?_;simp only[go_sem];refine⟨(i+1,k,acc++[u]),⟨ci,RN,by rw[<-Yy];simp,by simp only[Qj,Qe,Qi];omega⟩,(by show(f.1.length-(i+1))+(g.1.length-k)<(f.1.length-i)+(g.1.length-k);omega),?_⟩
     (refine Q7 rfl ?_ ?_ ?_ ?_<;>(try simp only[go_sem,Q6 (n:=(i:Int)+1) (by omega) (by omega)])<;>(try simp))
    .rw[Qb c1]at Yy
     have c1':((u.1:Int)<(v.1:Int))=False:=Ql (by omega);by_cases c2:v.1<u.1
     .rw[Qc c2,<-bci]at Yy
      have c2':((v.1:Int)<(u.1:Int))=True:=Qf (by omega);simp only[go_sem,ci'];refine Q4 2 rfl ?_;simp only[go_sem,ci',ck',nk',eli,elk,c1']
      (repeat(refine Qg (by omega) ?_))
      refine Q4 2 rfl ?_;simp only[go_sem,ci',ck',ne',eli,elk,c2']
      (repeat(refine Qg (by omega) ?_))
      refine Q4 0 rfl ?_;simp only[go_sem,ck',elk]
      (repeat(refine Qg (by omega) ?_))
      refine ZC (sz:=3) (bytes:=40) (by simp only[go_sem,QV]<;>decide) zaV acc [v] (b:=1000) (by simp only[go_sem]<;>rfl) (by simp only[go_sem]<;>rfl) (by simp only[go_sem]<;>rfl) rfl (by simp) (by simp only[Qe,Qi];omega) (by decide) ?_;simp only[go_sem];refine⟨(i,k+1,acc++[v]),⟨hi,ck,by rw[<-Yy];simp,by simp only[Qj,Qe,Qi];omega⟩,(by show(f.1.length-i)+(g.1.length-(k+1))<(f.1.length-i)+(g.1.length-k);omega),?_⟩
      (refine Q7 rfl ?_ ?_ ?_ ?_<;>(try simp only[go_sem,Q6 (n:=(k:Int)+1) (by omega) (by omega)])<;>(try simp))
     .rw[Qb c2]at Yy
      have c2':((v.1:Int)<(u.1:Int))=False:=Ql (by omega);have h1:=zlb u.2 v.2 (by omega) (by omega);have hl:=za6 u.2 v.2;have h2:=znM (u.2+v.2) (by omega);simp only[go_sem,ci'];refine Q4 2 rfl ?_;simp only[go_sem,ci',ck',nk',eli,elk,c1']
      (repeat(refine Qg (by omega) ?_))
      refine Q4 2 rfl ?_;simp only[go_sem,ci',ck',ne',eli,elk,c2']
      (repeat(refine Qg (by omega) ?_))
      refine Q4 0 rfl ?_;simp only[go_sem,ci',ck',eli,elk]
      (repeat(refine Qg (by omega) ?_))
      refine Q3 h1 rfl ?_;simp only[go_sem];refine Q3 h2 rfl ?_;by_cases c3:u.2+v.2=0
      .rw[Qc c3]at Yy
       have e0:(0:Int).sign=0:=rfl;rw[c3];simp only[go_sem,e0];refine⟨(i+1,k+1,acc),⟨ci,ck,Yy,(by show acc.length<=(i+1)+(k+1);omega)⟩,(by show(f.1.length-(i+1))+(g.1.length-(k+1))<(f.1.length-i)+(g.1.length-k);omega),?_⟩
       (refine Q7 rfl ?_ ?_ ?_ ?_<;>(try simp only[go_sem,Q6 (n:=(k:Int)+1) (by omega) (by omega),Q6 (n:=(i:Int)+1) (by omega) (by omega)])<;>(try simp))
      .rw[Qb c3]at Yy
       have hne:=zcx c3;simp only[go_sem,hne];refine Q4 0 rfl ?_;simp only[go_sem,ci',eli]
       (repeat(refine Qg (by omega) ?_))
       refine ZC (sz:=3) (bytes:=40) (by simp only[go_sem,QV]<;>decide) zaV acc [(u.1,u.2+v.2)] (b:=1000) (by simp only[go_sem]<;>rfl) (by simp only[go_sem]<;>rfl) (by simp only[go_sem]<;>rfl) rfl (by simp) (by simp only[Qe,Qi];omega) (by decide) ?_;simp only[go_sem];refine⟨(i+1,k+1,acc++[(u.1,u.2+v.2)]),⟨ci,ck,by rw[<-Yy];simp,by simp only[Qj,Qe,Qi];omega⟩,(by show(f.1.length-(i+1))+(g.1.length-(k+1))<(f.1.length-i)+(g.1.length-k);omega),?_⟩
       (refine Q7 rfl ?_ ?_ ?_ ?_<;>(try simp only[go_sem,Q6 (n:=(k:Int)+1) (by omega) (by omega),Q6 (n:=(i:Int)+1) (by omega) (by omega)])<;>(try simp))
   .obtain rfl:k=g.1.length:=by omega
    rw[wa5,zc0]at Yy;have ckk:((g.1.length:Int)<(g.1.length:Int))=False:=Ql (by omega);generalize f.1[i]=u at *
    simp only[go_sem,ci'];refine Q4 2 rfl ?_;simp only[go_sem]
    (repeat(refine Qg (by omega) ?_))
    refine Q4 0 rfl ?_;simp only[go_sem,ci',eli]
    (repeat(refine Qg (by omega) ?_))
    refine ZC (sz:=3) (bytes:=40) (by simp only[go_sem,QV]<;>decide) zaV acc [u] (b:=1000) (by simp only[go_sem]<;>rfl) (by simp only[go_sem]<;>rfl) (by simp only[go_sem]<;>rfl) rfl (by simp) (by simp only[Qe,Qi];omega) (by decide) ?_;simp only[go_sem];refine⟨(i+1,g.1.length,acc++[u]),⟨ci,RN,by rw[wa5,zc0,<-Yy];simp,by simp only[Qj,Qe,Qi];omega⟩,(by show(f.1.length-(i+1))+(g.1.length-g.1.length)<(f.1.length-i)+(g.1.length-g.1.length);omega),?_⟩
    (refine Q7 rfl ?_ ?_ ?_ ?_<;>(try simp only[go_sem,Q6 (n:=(i:Int)+1) (by omega) (by omega)])<;>(try simp))
  .obtain rfl:i=f.1.length:=by omega
   have cii:((f.1.length:Int)<(f.1.length:Int))=False:=Ql (by omega);by_cases ck:k<g.1.length
   .have ck':((k:Int)<(g.1.length:Int))=True:=Qf (by omega)
    have nk':((k:Int)=(g.1.length:Int))=False:=Ql (by omega);have elk:QM cMn g.1 k=cMn g.1[k]:=Q8 ck;rw[wa5,zcD,waw ck]at Yy;generalize g.1[k]=v at *
    simp only[go_sem,cii,ck'];refine Q4 2 rfl ?_;simp only[go_sem,cii,nk']
    (repeat(refine Qg (by omega) ?_))
    refine Q4 2 rfl ?_;simp only[go_sem]
    (repeat(refine Qg (by omega) ?_))
    refine Q4 0 rfl ?_;simp only[go_sem,ck',elk]
    (repeat(refine Qg (by omega) ?_))
    refine ZC (sz:=3) (bytes:=40) (by simp only[go_sem,QV]<;>decide) zaV acc [v] (b:=1000) (by simp only[go_sem]<;>rfl) (by simp only[go_sem]<;>rfl) (by simp only[go_sem]<;>rfl) rfl (by simp) (by simp only[Qe,Qi];omega) (by decide) ?_;simp only[go_sem];refine⟨(f.1.length,k+1,acc++[v]),⟨hi,ck,by rw[wa5,zcD,<-Yy];simp,by simp only[Qj,Qe,Qi];omega⟩,(by show(f.1.length-f.1.length)+(g.1.length-(k+1))<(f.1.length-f.1.length)+(g.1.length-k);omega),?_⟩
    (refine Q7 rfl ?_ ?_ ?_ ?_<;>(try simp only[go_sem,Q6 (n:=(k:Int)+1) (by omega) (by omega)])<;>(try simp))
   .obtain rfl:k=g.1.length:=by omega
    have ckk:((g.1.length:Int)<(g.1.length:Int))=False:=Ql (by omega);rw[wa5,wa5,zcD,wal]at Yy;simp only[go_sem,cii,ckk];have e:eF (QP f g) = .agg [eL cMn acc,.lit (.bool (decide (f.2+g.2<0))),eN (dig (f.2+g.2).natAbs)]:=by rw[Yy];rfl
    rw[e];refine Zt (zdX zaV ?_) .t .t;cases acc with
    |nil=>exact .inl rfl
    |cons z zs=>right;rfl
theorem zui(f g:Fm){N L:Nat}(hN:N<=1000000)(hL:L<=9000000000)(wf:WF f)(wg:WF g)(hf:Bd N L f)(hg:Bd N L g):Q9 prog 38 [eF f,eF g] (eF (QP f g)) :=
 zip (r:=fun f g=>eF (QP f g)) wf wg hf hg fun l k hl hk=>zxI l k hN hL hl hk
theorem BL.mono{N L M K:Nat}{a:LL}(h:BL N L a)(h1:N<=M)(h2:L<=K):BL M K a:=⟨Qn h.1 h1,fun m hm=>⟨(h.2.1 m hm).1,Qn (h.2.1 m hm).2 h2⟩,Qn h.2.2 h2⟩
theorem zyW(a:LL)(x:List (Bool×List Nat)){N L K:Nat}(hN:N<=1000000)(hL:L<=90000000000)(hK:K<=90000000000)(ha:BL N L a)(hx:x.length<1000000000)(UZ:∀ q∈x,q.2.length<=K):Q9 prog 55 [gL a,tLI x] (eI (atF (lv a) (ptX x))):=by
 refine QJ QC call55 func55 rfl ntmps55 results55 (by simp) (by decide) ?_;have h1:=zjg hN hL ha;have YJ:=zbp ha;generalize lv a=f at *
 have Y0:=YJ.1;have JA:=fun i=>zhX YJ (fun v=>zrc UZ v) i
 unfold atF;simp only[go_sem];refine Q3 h1 rfl ?_;simp only[go_sem];refine QK (fun i:Nat=>stL 47 [(1,aLI x),(4,.one (.ptr 4 0)),(5,.one (.ptr 5 0)),(6,.one (.ptr 6 0)),(7,litI .i64 i)]
   [(4,[.t (.lit (.bool false)),.t (.seq (some true) [])]),(5,(cF f).map .t),(6,[.t (.lit (.bool (decide (f.2+atM (f.1.take i) (ptX x)<0)))),.t (eN (dig (f.2+atM (f.1.take i) (ptX x)).natAbs))])])
  (fun i=>i<=f.1.length) (fun i=>f.1.length-i) 0 ?_ (Qk _) ?_
 .rw[wao,show f.2+atM [] (ptX x)=f.2 from wa9 _]
  (refine Q7 rfl ?_ ?_ ?_ ?_<;>(try simp only[go_sem])<;>(try simp))
 .intro i hi
  simp only[go_sem];refine QI (fun Yw=>?_) (fun YG=>?_)
  .have Yv:i<f.1.length:=by omega
   have Y1:QM cMn f.1 i=cMn f.1[i]:=Q8 Yv;have hm:=YJ.2.1 _ (Qh Yv);have Uw:=JA i;have Yx:f.2+atM (f.1.take (i+1)) (ptX x)=f.2+atM (f.1.take i) (ptX x)+f.1[i].2*ptX x f.1[i].1:=by rw[Zd Yv,zla,wdP]
   generalize f.1[i]=m at *
   generalize f.2+atM (f.1.take i) (ptX x)=acc at *
   simp only[go_sem,Y1,Yw]
   (repeat(refine Qg (by omega) ?_))
   by_cases c:m.1<x.length
   .have c':((m.1:Int)<(x.length:Int))=True:=Qf (by omega)
    have Wm:QM cI x m.1=cI x[m.1]:=Q8 c;have hp:ptX x m.1=iv x[m.1].1 x[m.1].2:=by unfold ptX;rw[waa c]
    have hq:=UZ _ (Qh c);rw[hp]at Yx;have e1:=zrd (decide (m.2<0)) (dig m.2.natAbs) x[m.1].1 x[m.1].2 (by have:=hm.2;unfold lN at this;omega) (by omega);rw[Z2]at e1;have l1:=ZX m.2 (iv x[m.1].1 x[m.1].2);have l2:=zaX x[m.1].1 x[m.1].2;have e2:=zlb acc (m.2*iv x[m.1].1 x[m.1].2) (by omega) (by omega);generalize x[m.1]=q at *
    simp only[go_sem,c'];refine Q4 0 rfl ?_;simp only[go_sem,Y1,Yw,Wm,c',cI]
    (repeat(refine Qg (by omega) ?_))
    refine Q3 e1 rfl ?_;simp only[go_sem];refine Q3 e2 rfl ?_;simp only[go_sem];refine⟨i+1,Yv,(by show f.1.length-(i+1)<f.1.length-i;omega),?_⟩
    (refine Q7 rfl ?_ ?_ ?_ ?_<;>(try simp only[go_sem,Yx,Q6 (n:=(i:Int)+1) (by omega) (by omega)])<;>(try simp))
   .have c':((m.1:Int)<(x.length:Int))=False:=Ql (by omega)
    have hp:ptX x m.1=0:=by unfold ptX;rw[wcy (by omega)]
    rw[hp,waF,wa9]at Yx;simp only[go_sem,c'];refine⟨i+1,Yv,(by show f.1.length-(i+1)<f.1.length-i;omega),?_⟩
    (refine Q7 rfl ?_ ?_ ?_ ?_<;>(try simp only[go_sem,Yx,Q6 (n:=(i:Int)+1) (by omega) (by omega)])<;>(try simp))
  .obtain rfl:i=f.1.length:=by omega
   rw[Q1];simp only[go_sem];exact Zk .t .t
theorem zwe(u v:Mn)(hu:lN u.2<100000000000)(hv:lN v.2<100000000000):Q9 prog 120 [.agg (cMn u),.agg (cMn v)] (tB (decide (u=v))):=by
 refine QJ QC call120 func120 rfl ntmps120 results120 (by simp) (by decide) ?_;have h:=ziJ u.2 v.2 (by omega) (by omega);by_cases c:u.1=v.1
 .have c':((u.1:Int)=(v.1:Int))=True:=Qf (by omega)
  have e:decide (u=v)=decide (u.2=v.2):=wax.2 ⟨fun e=>by rw[e],fun e=>Prod.ext c e⟩;rw[e];simp only[go_sem,c'];refine Q3 h rfl ?_;simp only[go_sem]
 .have c':((u.1:Int)=(v.1:Int))=False:=Ql (by omega)
  rw[wad (show ¬u=v from fun e=>c (by rw[e]))];simp only[go_sem,c'];try rfl
theorem zsd(x y:List Mn)(hx:x.length<1000000000)(hy:y.length<1000000000)(bx:∀ m∈x,lN m.2<100000000000)(bY:∀ m∈y,lN m.2<100000000000):zhY prog 119 [.one (.t (eL cMn x)),.one (.t (eL cMn y)),.one (.fn 120 [])] (tB (decide (x=y))):=by
 refine zmE QC call119 func119 rfl ntmps119 results119 (by simp) (by decide) ?_;by_cases hl:x.length=y.length
 .have Ek:((x.length:Int)=(y.length:Int))=True:=Qf (by omega)
  simp only[go_sem,Ek];refine QK (fun i:Nat=>stL 32 [(0,.one (.t (eL cMn x))),(1,.one (.t (eL cMn y))),(2,.one (.fn 120 [])),(15,.one (.t (eL cMn x))),(16,litI .i64 x.length),(17,litI .i64 i)] [])
   (fun i=>i<=x.length/\x.take i=y.take i) (fun i=>x.length-i) 0 ?_ ⟨Qk _,rfl⟩ ?_
  ·(refine Q7 rfl ?_ ?_ ?_ ?_<;>(try simp only[go_sem])<;>(try simp))
  .rintro i ⟨hi,Yy⟩
   simp only[go_sem];refine QI (fun Yw=>?_) (fun YG=>?_)
   .have Yv:i<x.length:=by omega
    have YS:i<y.length:=by omega
    have Y1:QM cMn x i=cMn x[i]:=Q8 Yv;have YI:QM cMn y i=cMn y[i]:=Q8 YS;have h:=zwe x[i] y[i] (bx _ (Qh Yv)) (bY _ (Qh YS));have hne:¬x[i]=y[i]->decide (x=y)=false:=fun h=>wad fun e=>h (by subst e;rfl)
    have Yx:x[i]=y[i]->x.take (i+1)=y.take (i+1):=fun h=>by rw[Zd Yv,Zd YS,Yy,h]
    generalize x[i]=u at *
    generalize y[i]=v at *
    simp only[go_sem,Y1,YI,Yw]
    (repeat(refine Qg (by omega) ?_))
    by_cases c:u=v
    .have h:=zbV h c
     refine Q3 h rfl ?_;simp only[go_sem];refine⟨i+1,⟨Yv,Yx c⟩,(by show x.length-(i+1)<x.length-i;omega),?_⟩
     (refine Q7 rfl ?_ ?_ ?_ ?_<;>(try simp only[go_sem,Q6 (n:=(i:Int)+1) (by omega) (by omega)])<;>(try simp))
    .have h:=zcf h c
     rw[hne c];refine Q3 h rfl ?_;simp only[go_sem];try rfl
   .obtain rfl:i=x.length:=by omega
    rw[Q1,hl,Q1]at Yy;rw[waA Yy];simp only[go_sem];try rfl
 .have Ek:((x.length:Int)=(y.length:Int))=False:=Ql (by omega)
  rw[wad (show ¬x=y from fun e=>hl (by rw[e]))];simp only[go_sem,Ek];try rfl
theorem zxQ(a b:LL){N L:Nat}(hN:N<=1000000)(hL:L<=90000000000)(ha:BL N L a)(hb:BL N L b):Q9 prog 78 [gL a,gL b] (tB (decide (lv a=lv b))):=by
 refine QJ QC call78 func78 rfl ntmps78 results78 (by simp) (by decide) ?_;have h1:=zfn a (by have:=ha.1;omega) (fun m hm=>by have:=(ha.2.1 m hm).2;omega) (by have:=ha.2.2;omega);have h2:=zfn b (by have:=hb.1;omega) (fun m hm=>by have:=(hb.2.1 m hm).2;omega) (by have:=hb.2.2;omega);have b1:=zbp ha;have b2:=zbp hb;generalize lv a=f at *
 generalize lv b=g at *
 have hs:=ziJ f.2 g.2 (by have:=b1.2.2;omega) (by have:=b2.2.2;omega);have he:=zsd f.1 g.1 (by have:=b1.1;omega) (by have:=b2.1;omega) (fun m hm=>by have:=(b1.2.1 m hm).2;omega) (fun m hm=>by have:=(b2.2.1 m hm).2;omega);simp only[go_sem];refine Q4 0 rfl ?_;simp only[go_sem];((repeat(refine Q4 0 rfl ?_;simp only[go_sem]));refine Q3 (h1) rfl ?_;simp only[go_sem];(repeat(refine Q4 0 rfl ?_;simp only[go_sem]));refine Q3 (h2) rfl ?_;simp only[go_sem];(repeat(refine Q4 0 rfl ?_;simp only[go_sem]));refine Q3 (hs) rfl ?_;simp only[go_sem];(repeat(refine Q4 0 rfl ?_;simp only[go_sem])));by_cases c:f.2=g.2
 .have c':(f.2=g.2)=True:=Qf c
  have e:decide (f=g)=decide (f.1=g.1):=wax.2 ⟨fun e=>by rw[e],fun e=>Prod.ext e c⟩;rw[e];simp only[go_sem,c'];refine zhD rfl he rfl ?_;simp only[go_sem]
 .have c':(f.2=g.2)=False:=Ql c
  rw[wad (show ¬f=g from fun e=>c (by rw[e]))];simp only[go_sem,c'];try rfl
theorem znU(f g:Fm){N L:Nat}(hN:N<=1000000)(hL:L<=90000000000)(wf:WF f)(wg:WF g)(hf:Bd N L f)(hg:Bd N L g):Q9 prog 78 [eF f,eF g] (tB (decide (f=g))) :=
 zip (r:=fun f g=>tB (decide (f=g))) wf wg hf hg fun l k hl hk=>zxQ l k hN hL hl hk
def FL(l:LL):Prop:=(∀ m∈l.1,m.2.2.length<=4/\m.1<=100)/\l.1.length<=8/\l.2.2.length<=4
instance (l:LL):Decidable (FL l):=by unfold FL;exact inferInstance
def FP(x:List (Bool×List Nat)):Prop:=(∀ m∈x,m.2.length<=4)/\x.length<=12
instance (x:List (Bool×List Nat)):Decidable (FP x):=by unfold FP;exact inferInstance
theorem zxz(f g:Fm){N L:Nat}(hN:N<=1000000)(hL:L<=4000000000)(wf:WF f)(wg:WF g)(hf:Bd N L f)(hg:Bd N L g):Q9 prog 165 [eF f,eF g] (eF (QP f (scF g (-1)))) :=
 zip (r:=fun f g=>eF (QP f (scF g (-1)))) wf wg hf hg fun l k hl hk=>zrk l k hN hL hl hk
theorem zxA(f:Fm){N L:Nat}(hN:N<=1000000)(hL:L<=9000000000)(wf:WF f)(hf:Bd N L f):Q9 prog 115 [eF f] (eI (gM f.1:Int)) :=
 ziN (r:=fun f=>eI (gM f.1:Int)) wf hf fun l hl=>zzB l hN hL hl
def nrM(g:Int)(l:List Mn):List Mn:=l.map fun m=>(m.1,Int.fdiv m.2 g)
def ZQ(f:Fm):Fm:=if f.1=[]then f else(nrM (gM f.1:Int) f.1,-(Int.fdiv (-f.2) (gM f.1:Int)))
def clF(f:Fm):Int:=if f.1=[]then(if 0<f.2 then 3 else 2)else 1
def zcX(f:Fm):Fm:=QP (Ze 1) (scF f (-1))
theorem zlo{g:Int}{l:List Mn}:(nrM g l).length=l.length:=by unfold nrM;rw[Qm]
theorem zuQ{g:Int}{l:List Mn}{i:Nat}(h:i<l.length):(nrM g l).take (i+1)=(nrM g l).take i++[(l[i].1,Int.fdiv l[i].2 g)]:=by
 have h':i<(nrM g l).length:=by rwa[zlo]
 rw[Zd h'];congr 2;simp only[nrM,Qq]
theorem zoc(f:Fm):Q9 prog 113 [eF f] (tB (decide (f.1=[]))):=by
 refine QJ QC call113 func113 rfl ntmps113 results113 (by simp) (by decide) ?_;have e:decide (f.1=[])=decide ((f.1.length:Int)=0):=by rw[wax];cases f.1<;>simp<;>omega
 rw[e];simp only[go_sem]
theorem zwE(f:Fm)(h:lN f.2<100000000000):Q9 prog 114 [eF f] (tI .i64 (clF f)):=by
 refine QJ QC call114 func114 rfl ntmps114 results114 (by simp) (by decide) ?_;have h1:=zoc f;have h2:=zdF f.2 (by omega);by_cases c:f.1=[]
 .have h1:=zbV h1 c
  unfold clF;rw[Qc c];by_cases k:0<f.2
  .rw[Qc k]
   have e:(0<f.2.sign)=True:=Qf (by rw[wbJ k];decide);simp only[go_sem];((repeat(refine Q4 0 rfl ?_;simp only[go_sem,e]));refine Q3 (h1) rfl ?_;simp only[go_sem];(repeat(refine Q4 0 rfl ?_;simp only[go_sem,e]));refine Q3 (h2) rfl ?_;simp only[go_sem,e];(repeat(refine Q4 0 rfl ?_;simp only[go_sem,e])))
  .rw[Qb k]
   have e:(0<f.2.sign)=False:=Ql (fun h=>k (wdv.1 h));simp only[go_sem];((repeat(refine Q4 0 rfl ?_;simp only[go_sem,e]));refine Q3 (h1) rfl ?_;simp only[go_sem];(repeat(refine Q4 0 rfl ?_;simp only[go_sem,e]));refine Q3 (h2) rfl ?_;simp only[go_sem,e];(repeat(refine Q4 0 rfl ?_;simp only[go_sem,e])))
 .have h1:=zcf h1 c
  unfold clF;rw[Qb c];simp only[go_sem];((repeat(refine Q4 0 rfl ?_;simp only[go_sem]));refine Q3 (h1) rfl ?_;simp only[go_sem];(repeat(refine Q4 0 rfl ?_;simp only[go_sem])))
theorem zx8(l:LL){N L:Nat}(hN:N<=1000000)(hL:L<=900000000)(hl:BL N L l):Q9 prog 75 [gL l] (.tup [eF (ZQ (lv l)),tI .i64 (clF (lv l))]):=by
 refine QJ QC call75 func75 rfl ntmps75 results75 (by simp) (by decide) ?_;have YJ:=zbp hl;have hw:=zjH l;have h0:Q9 prog 85 [gL l,.agg [.seq (some true) [],.lit (.bool false),.seq (some true) []]] (eF (lv l)):=by
  have:=zma l (ZP ([],0)) hN (by omega) hl (zbS zhe);rw[zbR (f:=([],0)) trivial,zmw,zc9,zga]at this;exact this.tw (.cons .reflA (.cons (.agg (.cons .weak (.cons .refl (.cons .weak .nil)))) .nil))
 generalize lv l=f at *
 have h1:=zoc f;have h2:=zwE f (by have:=YJ.2.2;omega);by_cases c:f.1=[]
 .have h1:=zbV h1 c
  rw[show ZQ f=f from Qc c];simp only[go_sem];((repeat(refine Q4 0 rfl ?_;simp only[go_sem]));refine Q3 (h0) rfl ?_;simp only[go_sem];(repeat(refine Q4 0 rfl ?_;simp only[go_sem]));refine Q3 (h1) rfl ?_;simp only[go_sem];(repeat(refine Q4 0 rfl ?_;simp only[go_sem]));refine Q3 (h2) rfl ?_;simp only[go_sem];(repeat(refine Q4 0 rfl ?_;simp only[go_sem])));exact zaW (Zt .t .t .t) (.one .t)
 .have h1:=zcf h1 c
  have h3:=zxA f hN (by omega) hw YJ;rw[show ZQ f=(nrM (gM f.1:Int) f.1,-(Int.fdiv (-f.2) (gM f.1:Int)))from Qb c];have GS:=zyQ YJ f.1.length;rw[Q1]at GS;have hk:=YJ.2.2;have Gw:=Zs f.2;have h4:=zbO f.2 (by omega);have fl:∀ x:Int,lN x<=L->Q9 prog 116 [eI x,eI (gM f.1:Int)] (.tup [eI (Int.fdiv x (gM f.1:Int)),eI (Int.fmod x (gM f.1:Int))]):=fun x hx=>zeh x (gM f.1:Int) (by omega) (by rw[zbx];omega)
  have h5:=fl (-f.2) (by omega);have lf:=zas (-f.2) (gM f.1:Int);have h6:=zbO (Int.fdiv (-f.2) (gM f.1:Int)) (by omega);generalize (gM f.1:Int)=g at *
  generalize -(Int.fdiv (-f.2) g)=K at *
  have Y0:=YJ.1;simp only[go_sem];((repeat(refine Q4 0 rfl ?_;simp only[go_sem]));refine Q3 (h0) rfl ?_;simp only[go_sem];(repeat(refine Q4 0 rfl ?_;simp only[go_sem]));refine Q3 (h1) rfl ?_;simp only[go_sem];(repeat(refine Q4 0 rfl ?_;simp only[go_sem]));refine Q3 (h3) rfl ?_;simp only[go_sem];(repeat(refine Q4 0 rfl ?_;simp only[go_sem]));refine Q3 (h4) rfl ?_;simp only[go_sem];(repeat(refine Q4 0 rfl ?_;simp only[go_sem]));refine Q3 (h5) rfl ?_;simp only[go_sem];(repeat(refine Q4 0 rfl ?_;simp only[go_sem]));refine Q3 (h6) rfl ?_;simp only[go_sem];(repeat(refine Q4 0 rfl ?_;simp only[go_sem])));refine QK (fun i:Nat=>stL 72 [(2,.one (.ptr 2 0)),(4,.one (.ptr 4 0)),(5,.one (.ptr 5 0)),(8,.one (.ptr 8 0)),(46,.one (.t (eL cMn f.1))),(47,litI .i64 f.1.length),(48,litI .i64 i)]
    (Zb 1000 cMn ((nrM g f.1).take i)++[(2,[.t (.seq (some true) []),.t (.lit (.bool false)),.t (.seq (some true) [])]),(4,(cF f).map .t),(5,[.t (.lit (.bool (decide (g<0)))),.t (eN (dig g.natAbs))]),(8,[QX 1000 3 ((nrM g f.1).take i),.t (.lit (.bool (decide (K<0)))),.t (eN (dig K.natAbs))])]))
   (fun i=>i<=f.1.length) (fun i=>f.1.length-i) 0 ?_ (Qk _) ?_
  .rw[wao]
   (refine Q7 rfl ?_ ?_ ?_ ?_<;>(try simp only[go_sem])<;>(try simp))
  .intro i hi
   simp only[go_sem];refine QI (fun Yw=>?_) (fun YG=>?_)
   .have Yv:i<f.1.length:=by omega
    have Y1:QM cMn f.1 i=cMn f.1[i]:=Q8 Yv;have hm:=fl _ (YJ.2.1 _ (Qh Yv)).2;have hv:=(YJ.2.1 _ (Qh Yv)).1;have Yx:=zuQ (g:=g) Yv;have Rp:((nrM g f.1).take i).length=i:=by rw[wat,zlo];omega
    generalize f.1[i]=m at *
    generalize (nrM g f.1).take i=acc at *
    simp only[go_sem,Y1,Yw]
    (repeat(refine Qg (by omega) ?_))
    ((repeat(refine Q4 0 rfl ?_;simp only[go_sem]));refine Q3 (hm) rfl ?_;simp only[go_sem];(repeat(refine Q4 0 rfl ?_;simp only[go_sem])));refine ZC (sz:=3) (bytes:=40) (by simp only[go_sem,QV]<;>decide) zaV acc [(m.1,Int.fdiv m.2 g)] (b:=1000) (by simp only[go_sem]<;>rfl) (by simp only[go_sem]<;>rfl) (by simp only[go_sem]<;>rfl) rfl (by simp) (by simp only[Qe,Qi]at *;omega) (by decide) ?_;simp only[go_sem];refine⟨i+1,Yv,(by show f.1.length-(i+1)<f.1.length-i;omega),?_⟩
    (refine Q7 rfl ?_ ?_ ?_ ?_<;>(try simp only[go_sem,Yx,Q6 (n:=(i:Int)+1) (by omega) (by omega)])<;>(try simp))
   .obtain rfl:i=f.1.length:=by omega
    rw[show f.1.length=(nrM g f.1).length from zlo.symm,Q1];simp only[go_sem];((repeat(refine Q4 0 rfl ?_;simp only[go_sem]));refine Q3 (h2) rfl ?_;simp only[go_sem];(repeat(refine Q4 0 rfl ?_;simp only[go_sem])));refine zaW (Zt (zdX zaV ?_) .t .t) (.one .t);cases h:nrM g f.1 with
    |nil=>exact .inl rfl
    |cons z zs=>right;rfl
theorem zy5(l:LL){N L:Nat}(hN:N<=1000000)(hL:L<=3000000000)(LA:1<=L)(hl:BL N L l):Q9 prog 142 [gL l] (eF (zcX (lv l))):=by
 refine QJ QC call142 func142 rfl ntmps142 results142 (by simp) (by decide) ?_;have o:=zbP 1 (by decide) (by decide);have l1:lN 1<=1:=zcL;have k:=zeR 1 (by omega);have s:=zrk (ZP (Ze 1)) l (N:=N) (L:=L) hN (by omega) (zbS ((zuI (N:=N) 1).mono (Qd _) (by omega))) hl;rw[zbR (zej 1),zc9]at s;obtain⟨u,hu⟩:∃ u:Int,u=1:=⟨_,rfl⟩
 have o:Q9 prog 106 [tI .i64 1] (eI u):=by rw[hu];exact o
 unfold zcX;generalize QP (Ze 1) (scF (lv l) (-1))=R at *
 generalize Ze 1=K at *
 rw[<-hu]at k;clear hu l1;simp only[go_sem];((repeat(refine Q4 0 rfl ?_;simp only[go_sem]));refine Q3 (o) rfl ?_;simp only[go_sem];(repeat(refine Q4 0 rfl ?_;simp only[go_sem]));refine Q3 (k) rfl ?_;simp only[go_sem];(repeat(refine Q4 0 rfl ?_;simp only[go_sem]));refine Q3 (s) rfl ?_;simp only[go_sem];(repeat(refine Q4 0 rfl ?_;simp only[go_sem])));exact Zt .t .t .t
theorem zwA(f:Fm){N L:Nat}(hN:N<=1000000)(hL:L<=3000000000)(LA:1<=L)(wf:WF f)(hf:Bd N L f):Q9 prog 142 [eF f] (eF (zcX f)) :=
 ziN (r:=fun f=>eF (zcX f)) wf hf fun l hl=>zy5 l hN hL LA hl
theorem zuJ(f:Fm){N L:Nat}(hN:N<=1000000)(hL:L<=900000000)(wf:WF f)(hf:Bd N L f):Q9 prog 75 [eF f] (.tup [eF (ZQ f),tI .i64 (clF f)]) :=
 ziN (r:=fun f=>.tup [eF (ZQ f),tI .i64 (clF f)]) wf hf fun l hl=>zx8 l hN hL hl
theorem zuK(l:LL)(x:List (Bool×List Nat)){N L K:Nat}(hN:N<=1000000)(hL:L<=90000000000)(hK:K<=90000000000)(hl:BL N L l)(hx:x.length<1000000000)(UZ:∀ q∈x,q.2.length<=K):Q9 prog 33 [gL l,tLI x] (tB (decide (atF (lv l) (ptX x)<=0))):=by
 refine QJ QC call33 func33 rfl ntmps33 results33 (by simp) (by decide) ?_;have a:=zyW l x hN hL hK hl hx UZ;have la:=zhX (zbp hl) (fun v=>zrc UZ v) (lv l).1.length;rw[Q1]at la;have ln:=(zbp hl).1;have s:=znM (atF (lv l) (ptX x)) (by unfold atF;omega);have e:decide (atF (lv l) (ptX x)<=0)=decide ((atF (lv l) (ptX x)).sign<=0):=by rw[wax];exact Int.sign_nonpos_iff.symm
 rw[e];simp only[go_sem];((repeat(refine Q4 0 rfl ?_;simp only[go_sem]));refine Q3 (a) rfl ?_;simp only[go_sem];(repeat(refine Q4 0 rfl ?_;simp only[go_sem]));refine Q3 (s) rfl ?_;simp only[go_sem];(repeat(refine Q4 0 rfl ?_;simp only[go_sem])))
theorem zqv(ls:List LL)(x:List (Bool×List Nat)){N L K:Nat}(hN:N<=1000000)(hL:L<=90000000000)(hK:K<=90000000000)(YU:ls.length<1000000000)(hl:∀ l∈ls,BL N L l)(hx:x.length<1000000000)(UZ:∀ q∈x,q.2.length<=K):Q9 prog 15 [.one (eL cL ls),tLI x] (tB (decide (∀ l∈ls,atF (lv l) (ptX x)<=0))):=by
 refine QJ QC call15 func15 rfl ntmps15 results15 (by simp) (by decide) ?_;simp only[go_sem];refine QK (fun i:Nat=>stL 19 [(0,.one (.t (eL cL ls))),(1,aLI x),(5,litI .i64 i)] []) (fun i=>i<=ls.length/\∀ l∈ls.take i,atF (lv l) (ptX x)<=0) (fun i=>ls.length-i) 0 ?_ ⟨Qk _,by rw[wao];intro m hm;cases hm⟩ ?_
 ·(refine Q7 rfl ?_ ?_ ?_ ?_<;>(try simp only[go_sem])<;>(try simp))
 .rintro i ⟨hi,Yy⟩
  simp only[go_sem];refine QI (fun Yw=>?_) (fun YG=>?_)
  .have Yv:i<ls.length:=by omega
   have Y1:QM cL ls i=cL ls[i]:=Q8 Yv;have h:=zuK ls[i] x hN hL hK (hl _ (Qh Yv)) hx UZ;have Xf:¬atF (lv ls[i]) (ptX x)<=0->decide (∀ l∈ls,atF (lv l) (ptX x)<=0)=false:=fun h=>wad fun hf=>h (hf _ (Qh Yv))
   have Yx:atF (lv ls[i]) (ptX x)<=0->∀ m∈ls.take (i+1),atF (lv m) (ptX x)<=0:=fun h m hm=>by
    rw[Zd Yv]at hm;rcases wan.1 hm with hm|hm
    .exact Yy m hm
    .obtain rfl:=Qr.1 hm;exact h
   generalize ls[i]=l at *
   simp only[go_sem,Y1,Yw]
   (repeat(refine Qg (by omega) ?_))
   by_cases c:atF (lv l) (ptX x)<=0
   .have h:=zbV h c
    ((repeat(refine Q4 0 rfl ?_;simp only[go_sem]));refine Q3 (h) rfl ?_;simp only[go_sem];(repeat(refine Q4 0 rfl ?_;simp only[go_sem])));refine⟨i+1,⟨Yv,Yx c⟩,(by show ls.length-(i+1)<ls.length-i;omega),?_⟩
    (refine Q7 rfl ?_ ?_ ?_ ?_<;>(try simp only[go_sem,Q6 (n:=(i:Int)+1) (by omega) (by omega)])<;>(try simp))
   .have h:=zcf h c
    rw[Xf c];((repeat(refine Q4 0 rfl ?_;simp only[go_sem]));refine Q3 (h) rfl ?_;simp only[go_sem];(repeat(refine Q4 0 rfl ?_;simp only[go_sem])));try rfl
  .obtain rfl:i=ls.length:=by omega
   rw[Q1]at Yy;rw[waA Yy];simp only[go_sem];try rfl
theorem zfs{l:List Mn}:∀ m∈l,(gM l:Int)∣m.2:=by
 suffices ∀ i,i<=l.length->∀ m∈l.take i,(gM (l.take i):Int)∣m.2 by
  have h:=this l.length (Qd _);rwa[Q1]at h
 intro i
 induction i with
 |zero=>intro _ m hm;rw[wao]at hm;cases hm
 |succ i ih =>
  intro hi m hm;have Yw:i<l.length:=hi;rw[Zd Yw]at hm ⊢;rw[zqd];rcases wan.1 hm with hm|hm
  .exact Int.dvd_trans (Int.gcd_dvd_left ..) (ih (by omega) m hm)
  .obtain rfl:=Qr.1 hm
   exact Int.gcd_dvd_right ..
theorem zq3{l:List Mn}{d:Int}(h:∀ m∈l,d∣m.2):d∣(gM l:Int):=by
 suffices ∀ i,i<=l.length->d∣(gM (l.take i):Int) by
  have h:=this l.length (Qd _);rwa[Q1]at h
 intro i
 induction i with
 |zero=>intro _;rw[wao,show gM []=0 from rfl];exact Int.dvd_zero d
 |succ i ih =>
  intro hi;have Yw:i<l.length:=hi;rw[Zd Yw,zqd];exact Int.dvd_coe_gcd (ih (by omega)) (h _ (Qh Yw))
theorem zjR{l:List Mn}{n:Nat}(hw:WM n l)(h:l≠[]):gM l≠0:=by
 intro e;cases l with
 |nil=>exact h rfl
 |cons m l =>
  have:=zfs (l:=m::l) m (wam ..);rw[e]at this;exact hw.2.1 (Int.zero_dvd.1 this)
theorem zzt{g:Int}(hg:g≠0)(p:Nat->Int):∀ {l:List Mn},(∀ m∈l,g∣m.2)->atM l p=g*atM (nrM g l) p:=by
 intro l
 induction l with
 |nil=>intro _;show 0=g*0;rw[waF]
 |cons m l ih =>
  intro h;obtain⟨q,hq⟩:=h m (wam ..);show m.2*p m.1+atM l p=g*(Int.fdiv m.2 g*p m.1+atM (nrM g l) p)
  rw[ih fun m hm=>h m (waj _ hm),hq,wcJ _ hg,wbQ,wbP]
theorem zzu{g:Int}(hg:g≠0):∀ {l:List Mn} {n:Nat},(∀ m∈l,g∣m.2)->WM n l->WM n (nrM g l):=by
 intro l
 induction l with
 |nil=>intros;trivial
 |cons m l ih =>
  intro n h w;obtain⟨q,hq⟩:=h m (wam ..);refine⟨w.1,?_,ih (fun m hm=>h m (waj _ hm)) w.2.2⟩;show Int.fdiv m.2 g≠0;rw[hq,wcJ _ hg];intro e;exact w.2.1 (by rw[hq,e,waF])
theorem zxo{g:Int}{l:List Mn}:nrM g l=[]↔l=[]:=by unfold nrM;exact wd5
theorem zp8{f:Fm}(hf:WF f):WF (ZQ f):=by
 unfold ZQ;split
 .exact hf
 .rename_i h;have:=zjR hf h;exact zzu (by omega) zfs hf
theorem zlC(f:Fm):clF (ZQ f)=clF f:=by
 by_cases h:f.1=[]
 .rw[show ZQ f=f from Qc h]
 .rw[show ZQ f=(nrM (gM f.1:Int) f.1,-(Int.fdiv (-f.2) (gM f.1:Int)))from Qb h]
  unfold clF;rw[Qb (fun h'=>h (zxo.1 h')),Qb h]
theorem norm_holds{f:Fm}(hf:WF f)(p:Nat->Int):atF (ZQ f) p<=0↔atF f p<=0:=by
 by_cases h:f.1=[]
 .rw[show ZQ f=f from Qc h]
 .have hg:=zjR hf h
  rw[show ZQ f=(nrM (gM f.1:Int) f.1,-(Int.fdiv (-f.2) (gM f.1:Int)))from Qb h];unfold atF;rw[zzt (l:=f.1) (g:=(gM f.1:Int)) (by omega) p zfs];show -(Int.fdiv (-f.2) (gM f.1:Int))+atM (nrM (gM f.1:Int) f.1) p<=0↔_;generalize atM (nrM (gM f.1:Int) f.1) p=S;rw[wcw _ (by omega)];have:=Int.le_ediv_iff_mul_le (a:=S) (b:=-f.2) (c:=(gM f.1:Int)) (by omega);rw[waI S]at this;omega
theorem zyG(f:Fm)(p:Nat->Int):atF (zcX f) p=1-atF f p:=by
 unfold zcX;rw[zdR,zfX,zcQ];omega
theorem cl3(f:Fm):clF f=1\/clF f=2/\(∀ p,atF f p<=0)\/clF f=3/\∀ p,¬atF f p<=0:=by
 unfold clF;split
 .rename_i h
  have e:∀ p,atF f p=f.2:=fun p=>by unfold atF;rw[h];exact wa9 _
  split
  .exact .inr (.inr ⟨rfl,fun p=>by rw[e];omega⟩)
  .exact .inr (.inl ⟨rfl,fun p=>by rw[e];omega⟩)
 .exact .inl rfl
theorem zw7{P:Program}{f:FuncId}{xs:List TV}{p q:Prop}[Decidable p][Decidable q](h:Q9 P f xs (tB (decide p)))(e:p↔q):Q9 P f xs (tB (decide q)):=by rwa[<-wax.2 e]
theorem ztZ{v:Nat}{c k:Int}{L:Nat}(hv:v<9223372036854775808)(hc:lN c<=L)(hk:lN k<=L):Bd 1 L ([(v,c)],k) :=
 ⟨Qd _,(fun m hm=>by obtain rfl:=Qr.1 hm;exact⟨hv,hc⟩),hk⟩
theorem zt0{v:Nat}{c k:Int}(hc:c≠0):WF ([(v,c)],k):=⟨Qk _,hc,trivial⟩
theorem zt1(v:Nat)(c k:Int)(p:Nat->Int):atF ([(v,c)],k) p=k+c*p v:=by
 show k+(c*p v+0)=_;omega
end Go.Proofs.YtlgjjcmljmjenaaGreat
