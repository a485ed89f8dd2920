/- At every input the call answers true and leaves its arguments as they were; no conditions. -/
import Derived.Test.YtlgjjcmljmjenaaGreatPa
import Derived.Test.YtlgjjcmljmjenaaGreatCa
set_option linter.unusedSimpArgs false
set_option linter.unusedVariables false
set_option maxRecDepth 100000
set_option maxHeartbeats 16000000
namespace Go.Proofs.YtlgjjcmljmjenaaGreat
open Go Go.Abs Go.Proofs.Tryz
def zdq:List Mn->(Nat->Rat)->Rat
 |[],_=>0
 |m::l,p=>(m.2:Rat)*p m.1+zdq l p
def atQ(f:Fm)(p:Nat->Rat):Rat:=(f.2:Rat)+zdq f.1 p
theorem zl3:Q9 prog 100 [] (eQ 0):=by
 refine QJ QC call100 func100 rfl ntmps100 results100 (by simp) (by decide) ?_;have h:Q9 prog 102 [gI0] (eQ 0):=by
  have:=zmm false [] (by simp);rw[show((iv false []:Int):Rat)=0 by rw[show iv false []=0 by decide];rfl]at this;exact this.fz (.cons (Zk .t .weak) .nil)
 simp only[go_sem];((repeat(refine Q4 0 rfl ?_;simp only[go_sem]));refine Q3 (h) rfl ?_;simp only[go_sem];(repeat(refine Q4 0 rfl ?_;simp only[go_sem])));exact Zt .t .t .t
theorem zyC(l:LL){N L:Nat}(hN:N<=1000000)(hL:L<=5000000000)(hl:BL N L l):Q9 prog 101 [gL l] (eF (lv l)):=by
 refine QJ QC call101 func101 rfl ntmps101 results101 (by simp) (by decide) ?_;have h0:Q9 prog 85 [gL l,.agg [.seq (some true) [],.lit (.bool false),.seq (some true) []]] (eF (lv l)):=by
  have:=zma l (ZP ([],0)) hN (by omega) hl (zbS zhe);rw[zbR (f:=([],0)) trivial,zmw,zc9,zga]at this;exact this.tw (.cons .reflA (.cons (.agg (.cons .weak (.cons .refl (.cons .weak .nil)))) .nil))
 simp only[go_sem];((repeat(refine Q4 0 rfl ?_;simp only[go_sem]));refine Q3 (h0) rfl ?_;simp only[go_sem];(repeat(refine Q4 0 rfl ?_;simp only[go_sem])));exact Zt .t .t .t
theorem zqr(l:List Rat)(hl:l.length<1000000):Q9 prog 58 [tLR l] (tLR l):=by
 refine QJ QC call58 func58 rfl ntmps58 results58 (by simp) (by decide) ?_;simp only[go_sem]
 (repeat(refine Qg (by omega) ?_))
 refine QK (fun i:Nat=>stL 23 [(3,.one (.vec 8 3 0 l.length)),(9,aLR l),(10,litI .i64 l.length),(11,litI .i64 i)] [(8,Q5 cZ ((l.take i).map some++List.replicate (l.length-i) none))]) (fun i=>i<=l.length) (fun i=>l.length-i) 0 ?_ (Qk _) ?_
 .rw[wao,wbI,waH,wbw]
  refine GStep.trans (zar 8 (cs:=Zg l.length z3) (by simp only[go_sem]<;>rfl) (ze1 _)) ?_
  (refine Q7 rfl ?_ ?_ ?_ ?_<;>(try simp only[go_sem,QH])<;>(try simp))
 .intro i hi
  simp only[go_sem];refine QI (fun Yw=>?_) (fun YG=>?_)
  .have Yv:i<l.length:=by omega
   have Y1:QM cR l i=cR l[i]:=Q8 Yv;have Wl:((l.take i).map some++List.replicate (l.length-i) none).length=l.length:=by simp;omega
   have Yx:=zfR (l:=l) (n:=l.length) Yv (Qd _);have hr:=zi8 l[i];generalize (l.take i).map some++List.replicate (l.length-i) none=ys at *
   generalize l[i]=q at *
   simp only[go_sem,Y1,Yw]
   (repeat(refine Qg (by omega) ?_))
   refine Q3 hr rfl ?_;simp only[go_sem,Yw,zgg]
   (repeat(refine Qg (by omega) ?_))
   have VW:=zgC (ys:=ys) (i:=i) (by omega) (q:=q);rw[Yx]at VW;refine⟨i+1,Yv,(by show l.length-(i+1)<l.length-i;omega),?_⟩
   (refine Q7 rfl ?_ ?_ ?_ ?_<;>(try simp only[go_sem,QH,VW,Q6 (n:=(i:Int)+1) (by omega) (by omega)])<;>(try simp))
  .obtain rfl:i=l.length:=by omega
   rw[Q1,wbl,wbX,wal,zgw];simp only[go_sem];exact zf7 zat (by simp only[go_sem]) rfl
theorem zvK{l:List Mn}{m:Mn}:∀ {n:Nat},WM n (l++[m])->∀ v,coM (l++[m]) v=if v=m.1 then m.2 else coM l v:=by
 induction l with
 |nil=>intro n _ v;show(if m.1=v then m.2 else 0)=if v=m.1 then m.2 else 0;split<;>split<;>first|rfl|omega
 |cons x l ih =>
  intro n w v;show(if x.1=v then x.2 else coM (l++[m]) v)=if v=m.1 then m.2 else(if x.1=v then x.2 else coM l v)
  have hx:x.1<m.1:=by
   have:=WM.mem w.2.2 m (by simp);omega
  rw[ih w.2.2 v];by_cases e:x.1=v
  .rw[Qc e,Qb (by omega),Qc e]
  .rw[Qb e,Qb e]
theorem zxf{l:List Mn}:∀ {n:Nat} (i:Nat),WM n l->WM n (l.take i):=by
 induction l with
 |nil=>intro n i _;rw[List.take_nil];trivial
 |cons x l ih =>
  intro n i w;cases i with
  |zero=>trivial
  |succ i=>exact⟨w.1,w.2.1,ih i w.2.2⟩
theorem zoH{l:List Mn}{n i:Nat}(w:WM n l)(h:i<l.length)(v:Nat):coM (l.take (i+1)) v=if v=l[i].1 then l[i].2 else coM (l.take i) v:=by
 have:=zxf (i+1) w;rw[Zd h]at this ⊢;exact zvK this v
end Go.Proofs.YtlgjjcmljmjenaaGreat
