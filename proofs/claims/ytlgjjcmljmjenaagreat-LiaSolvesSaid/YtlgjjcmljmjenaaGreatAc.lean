/- At every input the call answers true and leaves its arguments as they were; no conditions. -/
import Derived.Test.YtlgjjcmljmjenaaGreatAb
import Derived.KernelRfl
import Derived.Laws.Append
set_option linter.unusedSimpArgs false
set_option linter.unusedVariables false
set_option maxRecDepth 100000
namespace Go.Abs
section
variable {P:Program} {m:Nat} {ops:List Oper} {Q:Exit->St->Prop} {q:St->Prop} {σ σ':St} {K:AV->St->Prop}
def KR(P:Program)(m:Nat)(ops:List Oper)(q:St->Prop)(l:List Oper)(d:Option Nat)(v:AV)(σ:St):Prop:=Yf P m ops q l (σ.putO d v)
@[go_sem] theorem KR_eq{l:List Oper}{d:Option Nat}{v:AV}:KR P m ops q l d v σ=Yf P m ops q l (σ.putO d v):=rfl
def zhN(c:Option Bool)(P:Program)(x y:Code)(Q:Exit->St->Prop)(σ:St):Prop:=BR c (wpA P x Q σ) (wpA P y Q σ)
@[go_sem] theorem zAU{x y:Code}:zhN (some true) P x y Q σ=wpA P x Q σ:=rfl
@[go_sem] theorem zz9{x y:Code}:zhN (some false) P x y Q σ=wpA P y Q σ:=rfl
theorem QI{c:Prop}[Decidable c]{x y:Code}(h:c->wpA P x Q σ)(h':¬c->wpA P y Q σ):zhN (some (decide c)) P x y Q σ:=by
 by_cases hc:c<;>simp[zhN,BR,hc,h,h']
def zlS(c:Option Bool)(P:Program)(m:Nat)(ops:List Oper)(q:St->Prop)(o:Oper)(l:List Oper)(σ:St):Prop :=
 BR c (QW P m o σ (KR P m ops q l o.dst)) (Yf P m ops q l (σ.putO o.dst undefA))
@[go_sem] theorem zAa{o:Oper}{l:List Oper}:zlS (some true) P m ops q o l σ=QW P m o σ (KR P m ops q l o.dst):=rfl
@[go_sem] theorem zzO{o:Oper}{l:List Oper}:zlS (some false) P m ops q o l σ=Yf P m ops q l (σ.putO o.dst undefA):=rfl
@[go_sem] theorem zC9:wpA P .skip Q σ=Q .normal σ:=rfl
@[go_sem] theorem zD1{a b:Code}:wpA P (.seq a b) Q σ=wpA P a (zec (wpA P b Q) Q) σ:=rfl
@[go_sem] theorem zDa{c:Operand}{x y:Code}:wpA P (.cond c x y) Q σ=zhN (ev σ.s c).boolOf P x y Q σ:=rfl
@[go_sem] theorem zBU{id:Nat}{c:Code}:wpA P (.block id c) Q σ=wpA P c (zfr id Q) σ:=rfl
@[go_sem] theorem zDb{c:Code}:wpA P (.loop c) Q σ=zmo (wpA P c) Q σ:=rfl
@[go_sem] theorem zDc{id:Nat}:wpA P (.exit id) Q σ=Q (.exit id) σ:=rfl
@[go_sem] theorem zD2:wpA P .ret Q σ=Q .ret σ:=rfl
@[go_sem] theorem zD3{id:Nat}{l:List Oper}:wpA P (.region id l.toArray false) Q σ=Yf P 2 l (Q .normal) l σ:=rfl
@[go_sem] theorem zDd{id:Nat}{o:Array Oper}:wpA P (.region id o true) Q σ=zgK P o (Q .normal) σ:=rfl
theorem Q4{l:List Oper}(m:Nat)(h:zjz m [] l.toArray=true)(h':Yf P m l q l σ):zgK P l.toArray q σ:=.inl ⟨m,[],σ,fun ρ ok _ w h=>⟨ρ,ok,h,Goes.refl ρ ok w⟩,h,fun _ hp=>Qo hp (by simp),h'⟩
@[go_sem] theorem zAb{K:St->Prop}:zec K Q .normal σ=K σ:=rfl
@[go_sem] theorem zDe{K:St->Prop}:zec K Q .ret σ=Q .ret σ:=rfl
@[go_sem] theorem zBV{K:St->Prop}{id:Nat}:zec K Q (.exit id) σ=Q (.exit id) σ:=rfl
@[go_sem] theorem zzI{id:Nat}:zfr id Q .normal σ=Q .normal σ:=rfl
@[go_sem] theorem zAV{id:Nat}:zfr id Q .ret σ=Q .ret σ:=rfl
@[go_sem] theorem zAc{id id':Nat}:zfr id Q (.exit id') σ=if id'=id then Q .normal σ else Q (.exit id') σ:=rfl
@[go_sem] theorem zAW:Yf P m ops q [] σ=q σ:=rfl
@[go_sem] theorem zzP{d:Option Nat}{op:Op}{ty:TypeId}{pos:String}{af:Array Edge}{l:List Oper} :
  Yf P m ops q ({ dst:=d,op:=op,type:=ty,pos:=pos,after:=af,guard:=none }::l) σ =
   (zbd σ.n d=true/\QW P m { dst:=d,op:=op,type:=ty,pos:=pos,after:=af,guard:=none } σ (KR P m ops q l d)):=rfl
@[go_sem] theorem zzQ{d:Option Nat}{op:Op}{ty:TypeId}{pos:String}{af:Array Edge}{l:List Oper}{g:Nat×Bool} :
  Yf P m ops q ({ dst:=d,op:=op,type:=ty,pos:=pos,after:=af,guard:=some g }::l) σ =
   (zbd σ.n d=true/\zlS (zbz ops σ (some g)) P m ops q { dst:=d,op:=op,type:=ty,pos:=pos,after:=af,guard:=some g } l σ):=rfl
@[go_sem] theorem zAX{n d:Nat}:zbd n (some d)=decide (d<n):=rfl
@[go_sem] theorem zAY{n:Nat}:zbd n none=true:=rfl
@[go_sem] theorem put_n{d:Nat}{v:AV}:(σ.put d v).n=σ.n:=rfl
@[go_sem] theorem put_H{d:Nat}{v:AV}:(σ.put d v).H=σ.H:=rfl
@[go_sem] theorem put_s{d t:Nat}{v:AV}:(σ.put d v).s t=if t=d then v else σ.s t:=rfl
@[go_sem] theorem zBW{d:Nat}{v:AV}:σ.putO (some d) v=σ.put d v:=rfl
@[go_sem] theorem zBX{v:AV}:σ.putO none v=σ:=rfl
@[go_sem] theorem zD4{H:QD}:(σ.withH H).n=σ.n:=rfl
@[go_sem] theorem zD5{H:QD}{t:Nat}:(σ.withH H).s t=σ.s t:=rfl
@[go_sem] theorem zD6{H:QD}:(σ.withH H).H=H:=rfl
@[go_sem] theorem init_n{n:Nat}{as:List AV}{H:QD}:(zbb n as H).n=n:=rfl
@[go_sem] theorem init_H{n:Nat}{as:List AV}{H:QD}:(zbb n as H).H=H:=rfl
@[go_sem] theorem init_s{n t:Nat}{as:List AV}{H:QD}:(zbb n as H).s t=as.getD t undefA:=rfl
@[go_sem] theorem zaE{H:QD}{b n:Nat}{x:Option (List C)}:upd H b x n=if n=b then x else H n:=rfl
@[go_sem] theorem noH_at{n:Nat}:noH n=none:=rfl
@[go_sem] theorem ev_tmp{s:Nat->AV}{t:Nat}:ev s (.tmp t)=s t:=rfl
@[go_sem] theorem zDf{s:Nat->AV}{v:Value}:ev s (.const v)=zd9 v:=rfl
@[go_sem] theorem zD7{s:Nat->AV}{f:FuncId}:ev s (.func f) = .one (.fn f []):=rfl
@[go_sem] theorem zDg{k:IntKind}{n:Int}:zd9 (.int k n)=litI k n:=rfl
@[go_sem] theorem zBY{b:Bool}:zd9 (.bool b)=QO b:=rfl
@[go_sem] theorem zDh:zd9 (.pointer none) = .one (.t (.lit (.pointer none))):=rfl
@[go_sem] theorem zDi{s:ByteArray}:zd9 (.string s) = .one (.t (.lit (.string s))):=rfl
@[go_sem] theorem zDj:zd9 (.slice none 0 0) = .one (.t (.seq (some true) [])):=rfl
@[go_sem] theorem zAd{b:Bool}:(QO b).boolOf=some b:=rfl
@[go_sem] theorem zAZ{k:IntKind}{n:Int}:(litI k n).intOf=some (k,n):=rfl
@[go_sem] theorem zAe{c:C}:(AV.one c).cellsOf=some [c]:=rfl
@[go_sem] theorem zAf{cs:List C}:(AV.agg cs).cellsOf=some cs:=rfl
@[go_sem] theorem zzR{k:IntKind}{n:Int}:(litI k n).cellsOf=some [.t (.lit (.int k n))]:=rfl
@[go_sem] theorem zzS{b:Bool}:(QO b).cellsOf=some [.t (.lit (.bool b))]:=rfl
@[go_sem] theorem zAh{H:QD}{b off:Nat}:ZJ H (.one (.ptr b off))=(H b).map (·.drop off):=rfl
@[go_sem] theorem zzT{H:QD}{cs:List T}:ZJ H (.iptr cs)=some (cs.map .t):=rfl
@[go_sem] theorem zDk{b:Bool}:AV.one (.t (.lit (.bool b)))=QO b:=rfl
@[go_sem] theorem zD8{k:IntKind}{n:Int}:AV.one (.t (.lit (.int k n)))=litI k n:=rfl
@[go_sem] theorem zBZ{g:Nat}{w:Bool}:zbz ops σ (some (g,w))=zhS σ.s w (zdk ops g):=rfl
@[go_sem] theorem zA0{s:Nat->AV}{w:Bool}{t:Tmp}:zhS s w (some t)=zhR (s t) w:=rfl
@[go_sem] theorem zD9{b w:Bool}:zhR (QO b) w=some (b==w):=rfl
@[go_sem] theorem zAi{w:Bool}:zhR undefA w=some false:=rfl
@[go_sem] theorem zA1{d:Option Nat}{op:Op}{ty:TypeId}{pos:String}{af:Array Edge}{g:Option (Nat×Bool)}{l:List Oper}:zdk ({ dst:=d,op:=op,type:=ty,pos:=pos,after:=af,guard:=g }::l) 0=d:=rfl
@[go_sem] theorem zA2{o:Oper}{l:List Oper}{n:Nat}:zdk (o::l) (n+1)=zdk l n:=rfl
theorem Q3{f:FuncId}{as:List AV}{tvs:List TV}{r:TV}(h:Q9 P f tvs r)(h':as=tvs.map emb)(hK:K (emb r) σ):ZK P m f as σ K:=.inl ⟨tvs,r,h',h,hK⟩
end
section
variable {P:Program} {m:Nat} {σ:St} {K:AV->St->Prop} {d:Nat} {d':Option Nat} {ty:TypeId} {pos:String} {af:Array Edge} {g:Option (Nat×Bool)}
@[go_sem] theorem zDx{x:Operand}:QW P m ⟨some d,.move x,ty,pos,af,g⟩ σ K=K (ev σ.s x) σ:=by
 simp only[QW,Zh,if_true,zak,Zl,opV,opH,Qs];rfl
@[go_sem] theorem zA6{x:Operand}:QW P m ⟨some d,.assign x,ty,pos,af,g⟩ σ K=K (ev σ.s x) σ:=by
 simp only[QW,Zh,if_true,zak,Zl,opV,opH,Qs];rfl
@[go_sem] theorem zDy{c x y:Operand}:QW P m ⟨some d,.pick c x y,ty,pos,af,g⟩ σ K=((ev σ.s c).boolOf.isSome=true/\K (if(ev σ.s c).boolOf=some true then ev σ.s x else ev σ.s y) σ):=by
 simp only[QW,Zh,if_true,zak,Zl,opV,opH];rfl
@[go_sem] theorem zCa{t:TypeId}:QW P m ⟨some d,.alloc t,ty,pos,af,g⟩ σ K=((tok P t=true/\(tzero P t).isSome=true/\σ.H d=none)/\K (.one (.ptr d 0)) (σ.withH (upd σ.H d (tzero P t)))):=by
 simp only[QW,Zh,if_true,zak,Zl,opV,opH,waV]
@[go_sem] theorem st_box{t:TypeId}{x:Operand}:QW P m ⟨some d,.box t x,ty,pos,af,g⟩ σ K=(((ev σ.s x).cellsOf.isSome=true/\σ.H d=none)/\K (.one (.ptr d 0)) (σ.withH (upd σ.H d (ev σ.s x).cellsOf))):=by
 simp only[QW,Zh,if_true,zak,Zl,opV,opH,waV]
@[go_sem] theorem zCb{t:TypeId}{ps:List (Nat×Operand)}:QW P m ⟨some d,.build t ps.toArray,ty,pos,af,g⟩ σ K =
  ((tok P t=true/\partsTok P t=true/\(zeB P t (ps.map fun p=>(p.1,ev σ.s p.2))).isSome=true)/\K (.agg ((zeB P t (ps.map fun p=>(p.1,ev σ.s p.2))).getD [])) σ):=by
 simp only[QW,Zh,if_true,zak,Zl,opV,opH];rfl
@[go_sem] theorem zrR{t:TypeId}{n:Nat}{ps:List (Nat×Operand)}(hn:n≠0)(hp:zeb ps=false):QW P m ⟨some d,.buildSlice t n ps.toArray,ty,pos,af,g⟩ σ K =
  ((tok P t=true/\isSliceD (tdesc P t)=true/\tok P (telem P t)=true/\n*tsize P (telem P t)<=2^24/\0<n*tsize P (telem P t)/\((tzero P (telem P t)).map (·.length))=some (tsize P (telem P t)) /\
   (zb8 P t n (ps.map fun p=>(p.1,ev σ.s p.2))).isSome=true)/\K ((zb8 P t n (ps.map fun p=>(p.1,ev σ.s p.2))).getD .junk) σ):=by
 have e:(n != 0)=true:=by simpa using hn
 have e2:zeb ps.toArray.toList=false:=by simpa using hp
 simp only[QW,Zh,e,e2,wcS,wcC,if_true,zak,Zl,opV,opH];rfl
@[go_sem] theorem zCc:zeb []=false:=rfl
@[go_sem] theorem zA7{p:Nat×Operand}{l:List (Nat×Operand)}:zeb (p::l)=zgJ p.2:=rfl
@[go_sem] theorem zCd{n:Nat}:zgJ (.tmp n)=(decide (n=5)||decide (n=104)):=rfl
@[go_sem] theorem zAm{v:Value}:zgJ (.const v)=false:=rfl
@[go_sem] theorem zzE{t:TypeId}{n i:Nat}{ps:List (Nat×Operand)}{d':Option Nat}:QW P m ⟨d',.buildSlice t n ((i,.tmp 5)::ps).toArray,ty,pos,af,g⟩ σ K=OpA P m ⟨d',.buildSlice t n ((i,.tmp 5)::ps).toArray,ty,pos,af,g⟩ σ K:=by
 have e:(n != 0&&!zeb ((i,Operand.tmp 5)::ps).toArray.toList)=false:=by simp[zeb,zgJ]
 simp only[QW,Zh,e,wa4,if_false]
@[go_sem] theorem zzC{t:TypeId}{n i:Nat}{ps:List (Nat×Operand)}{d':Option Nat}:QW P m ⟨d',.buildSlice t n ((i,.tmp 104)::ps).toArray,ty,pos,af,g⟩ σ K=OpA P m ⟨d',.buildSlice t n ((i,.tmp 104)::ps).toArray,ty,pos,af,g⟩ σ K:=by
 have e:(n != 0&&!zeb ((i,Operand.tmp 104)::ps).toArray.toList)=false:=by simp[zeb,zgJ]
 simp only[QW,Zh,e,wa4,if_false]
@[go_sem] theorem zzF{t:TypeId}{ps:Array (Nat×Operand)}{d':Option Nat}:QW P m ⟨d',.buildSlice t 0 ps,ty,pos,af,g⟩ σ K=OpA P m ⟨d',.buildSlice t 0 ps,ty,pos,af,g⟩ σ K:=rfl
@[go_sem] theorem zDz{t:TypeId}{x:Operand}:QW P m ⟨some d,.load t x,ty,pos,af,g⟩ σ K =
  ((tok P t=true/\(ZJ σ.H (ev σ.s x)).isSome=true/\(if tagg P t then tsize P t else 1)<=((ZJ σ.H (ev σ.s x)).getD []).length) /\
   K (if tagg P t then .agg (((ZJ σ.H (ev σ.s x)).getD []).take (tsize P t))else .one (((ZJ σ.H (ev σ.s x)).getD []).headD default)) σ):=by
 simp only[QW,Zh,if_true,zak,Zl,opV,opH];rfl
def zpg(P:Program)(H:QD)(t:TypeId):AV->AV->Prop
 |.one (.ptr b off),x=>(match H b,x.cellsOf with|some cs,some ns=>ns.length=tsize P t/\off+ns.length<=cs.length|_,_=>False)
 |_,_=>False
def zqo(H:QD):AV->AV->QD
 |.one (.ptr b off),x=>upd H b (some (Yh ((H b).getD []) off (x.cellsOf.getD [])))
 |_,_=>H
@[go_sem] theorem zCe{t:TypeId}{x y:Operand}:QW P m ⟨d',.store t x y,ty,pos,af,g⟩ σ K =
  ((tok P t=true/\zpg P σ.H t (ev σ.s x) (ev σ.s y))/\K undefA (σ.withH (zqo σ.H (ev σ.s x) (ev σ.s y)))):=by
 simp only[QW,Zh,if_true,zak,Zl,opV,opH];cases ev σ.s x with
 |one c=>cases c<;>rfl
 |_=>rfl
@[go_sem] theorem zzU{H:QD}{t:TypeId}{b off:Nat}{x:AV}:zpg P H t (.one (.ptr b off)) x=(match H b,x.cellsOf with|some cs,some ns=>ns.length=tsize P t/\off+ns.length<=cs.length|_,_=>False):=rfl
@[go_sem] theorem zAn{H:QD}{b off:Nat}{x:AV}:zqo H (.one (.ptr b off)) x=upd H b (some (Yh ((H b).getD []) off (x.cellsOf.getD []))):=rfl
@[go_sem] theorem zzV{x:Operand}:QW P m ⟨some d,.nilCheck x,ty,pos,af,g⟩ σ K=(zba (ev σ.s x)=true/\K (ev σ.s x) σ):=by
 simp only[QW,Zh,if_true,zak,Zl,opV,opH];rfl
@[go_sem] theorem zCf{op:BinOp}{t t':TypeId}{x y:Operand}:QW P m ⟨some d,.binOp op t x y t',ty,pos,af,g⟩ σ K =
  (((zaR op (ev σ.s x) (ev σ.s y)).isSome=true/\zd2 op (ev σ.s y)/\zcT P t (ev σ.s x))/\K ((zaR op (ev σ.s x) (ev σ.s y)).getD .junk) σ):=by
 simp only[QW,Zh,if_true,zak,Zl,opV,opH];rfl
@[go_sem] theorem zDA{op:UnOp}{t:TypeId}{x:Operand}:QW P m ⟨some d,.unOp op t x,ty,pos,af,g⟩ σ K=((unV op (ev σ.s x)).isSome=true/\K ((unV op (ev σ.s x)).getD .junk) σ):=by
 simp only[QW,Zh,if_true,zak,Zl,opV,opH];rfl
@[go_sem] theorem zAo{s t:TypeId}{x:Operand}:QW P m ⟨some d,.convert s t x,ty,pos,af,g⟩ σ K=((tok P s=true/\tok P t=true/\(zeJ P s t (ev σ.s x)).isSome=true)/\K ((zeJ P s t (ev σ.s x)).getD .junk) σ):=by
 simp only[QW,Zh,if_true,zak,Zl,opV,opH];rfl
def zhq(bytes:Nat):Option (IntKind×Int)->Option (IntKind×Int)->Prop
 |some (_,n),some (_,c)=>0<=n/\n<=c/\c<2^62/\bytes*c<=2^47
 |_,_=>False
@[go_sem] theorem zzW{bytes:Nat}{k k':IntKind}{n c:Int}:zhq bytes (some (k,n)) (some (k',c))=(0<=n/\n<=c/\c<2^62/\bytes*c<=2^47):=rfl
@[go_sem] theorem zzJ{t:TypeId}{l c:Operand}:QW P m ⟨some d,.makeSlice t l c,ty,pos,af,g⟩ σ K =
  ((tok P t=true/\isSliceD (tdesc P t)=true/\tok P (telem P t)=true/\(tzero P (telem P t)).isSome=true/\((tzero P (telem P t)).getD []).length=tsize P (telem P t)/\0<tsize P (telem P t)/\σ.H d=none /\
   zhq (tbytes P (telem P t)) (ev σ.s l).intOf (ev σ.s c).intOf)/\K (.one (.vec d (tsize P (telem P t)) 0 (idx (ev σ.s l)))) (σ.withH (upd σ.H d (some (Zg (idx (ev σ.s l)) ((tzero P (telem P t)).getD [])))))):=by
 simp only[QW,Zh,if_true,zak,Zl,opV,opH,waV];cases h1:(ev σ.s l).intOf with
 |none=>simp[zhq]
 |some p=>cases h2:(ev σ.s c).intOf with
  |none=>simp[zhq]
  |some q=>simp[zhq]
def zfG(x:AV):Option Nat->Option Nat->Nat->Prop
 |some l,some h,n=>l<=h/\h<=n/\(match x with|.one (.vec _ _ _ _)=>l=0\/l<h|_=>True)
 |_,_,_=>False
@[go_sem] theorem zCg{t:TypeId}{x:Operand}{lo hi:Option Operand}:QW P m ⟨some d,.slice t x lo hi none,ty,pos,af,g⟩ σ K =
  ((tok P t=true/\zex P t (ev σ.s x)/\(ev σ.s x).lenOf.isSome=true/\zfG (ev σ.s x) (zau 0 (lo.map (ev σ.s))) (zau ((ev σ.s x).lenOf.getD 0) (hi.map (ev σ.s))) ((ev σ.s x).lenOf.getD 0)) /\
   K (zcN (tsize P (telem P t)) (ev σ.s x) ((zau 0 (lo.map (ev σ.s))).getD 0) ((zau ((ev σ.s x).lenOf.getD 0) (hi.map (ev σ.s))).getD 0)) σ):=by
 simp only[QW,Zh,if_true,zak,Zl,opV,opH,zbh,Option.isNone_none,Qs];cases h1:(ev σ.s x).lenOf with
 |none=>simp
 |some n =>
  simp only[waV];cases h2:zau 0 (lo.map (ev σ.s))with
  |none=>simp[zfG]
  |some l=>cases h3:zau n (hi.map (ev σ.s))with
   |none=>simp[zfG]
   |some h=>simp only[zfG,Option.isSome_some,waV,Qs];rfl
@[go_sem] theorem zzK{t:TypeId}{x:Operand}{f:Nat}:QW P m ⟨some d,.fieldAddr t x f,ty,pos,af,g⟩ σ K =
  ((tok P t=true/\isStructD (tdesc P t)=true/\f<nfields P t/\tok P (fty P t f)=true/\0<tsize P (fty P t f)/\zba (ev σ.s x)=true)/\K (zcM (ev σ.s x) (foff P t f)) σ):=by
 simp only[QW,Zh,if_true,zak,Zl,opV,opH];rfl
def zhG(n:Nat):AV->Prop
 |.agg cs=>n<=cs.length
 |_=>False
def zeY:AV->List C
 |.agg cs=>cs
 |_=>[]
@[go_sem] theorem zCh{t:TypeId}{x:Operand}{f:Nat}:QW P m ⟨some d,.field t x f,ty,pos,af,g⟩ σ K =
  ((tok P t=true/\isStructD (tdesc P t)=true/\f<nfields P t/\tok P (fty P t f)=true/\zhG (if tagg P (fty P t f)then foff P t f+tsize P (fty P t f)else foff P t f+1) (ev σ.s x)) /\
   K (if tagg P (fty P t f)then .agg (((zeY (ev σ.s x)).drop (foff P t f)).take (tsize P (fty P t f)))else .one (((zeY (ev σ.s x)).drop (foff P t f)).headD default)) σ):=by
 simp only[QW,Zh,if_true,zak,Zl,opV,opH,zbh];cases ev σ.s x<;>simp[zhG,zeY]
def zfw(x i:AV):Prop:=match x.lenOf with|some n=>zaC i n|none=>False
theorem zrY{t:TypeId}{x y:Operand}(h:isSliceD (tdesc P t)=true):QW P m ⟨some d,.indexAddr t x y,ty,pos,af,g⟩ σ K =
  ((tok P t=true/\tok P (telem P t)=true/\zdW (tsize P (telem P t)) (ev σ.s x) (idx (ev σ.s y))/\zfw (ev σ.s x) (ev σ.s y))/\K (zcA (tsize P (telem P t)) (ev σ.s x) (idx (ev σ.s y))) σ):=by
 have Wa:isArrayD (tdesc P t)=false:=by rw[zaK h];rfl
 simp only[QW,Zh,if_true,zak,Zl,opV,opH,zbh,h,Wa];simp only[zfw,wa4,false_and,Qv,Qs];rfl
theorem zsf{t:TypeId}{x y:Operand}(h:isSliceD (tdesc P t)=false):QW P m ⟨some d,.indexAddr t x y,ty,pos,af,g⟩ σ K =
  ((tok P t=true/\tok P (telem P t)=true/\isArrayD (tdesc P t)=true/\zba (ev σ.s x)=true/\zaC (ev σ.s y) (arrLen (tdesc P t)))/\K (zcM (ev σ.s x) (idx (ev σ.s y)*tsize P (telem P t))) σ):=by
 simp only[QW,Zh,if_true,zak,Zl,opV,opH,zbh,h];simp
@[go_sem] theorem st_idx{t:TypeId}{x y:Operand}:QW P m ⟨some d,.indexAddr t x y,ty,pos,af,g⟩ σ K =
  (if isSliceD (tdesc P t)=true then((tok P t=true/\tok P (telem P t)=true/\zdW (tsize P (telem P t)) (ev σ.s x) (idx (ev σ.s y))/\zfw (ev σ.s x) (ev σ.s y))/\K (zcA (tsize P (telem P t)) (ev σ.s x) (idx (ev σ.s y))) σ)
   else((tok P t=true/\tok P (telem P t)=true/\isArrayD (tdesc P t)=true/\zba (ev σ.s x)=true/\zaC (ev σ.s y) (arrLen (tdesc P t)))/\K (zcM (ev σ.s x) (idx (ev σ.s y)*tsize P (telem P t))) σ)):=by
 split
 .rename_i h;exact zrY h
 .rename_i h;exact zsf (by simpa using h)
@[go_sem] theorem zAp{x:Operand}{i:Nat}:QW P m ⟨some d,.extract x i,ty,pos,af,g⟩ σ K=((match ev σ.s x with|.tup vs=>i<vs.length|_=>False)/\K (match ev σ.s x with|.tup vs=>vs.getD i .junk|_=>.junk) σ):=by
 simp only[QW,Zh,if_true,zak,Zl,opV,opH];rfl
@[go_sem] theorem zzX{f:FuncId}{first caps:List Operand}:QW P m ⟨some d,.makeFunc (.func f) first.toArray caps.toArray,ty,pos,af,g⟩ σ K =
  ((first.length=0/\(zcO (caps.map (ev σ.s))).isSome=true)/\K (.one (.fn f ((zcO (caps.map (ev σ.s))).getD []))) σ):=by
 simp only[QW,Zh,if_true,zak,Zl,opV,opH,zbh];simp
@[go_sem] theorem zA8{t:TypeId}{nl:Option Bool}{xs:List (List T)}:zcj P t (.one (.t (.seq nl xs)))=(isSliceD (tdesc P t)=true):=by simp[zcj,AV.lenOf]
@[go_sem] theorem zA9{t:TypeId}{b s o n:Nat}:zcj P t (.one (.vec b s o n))=(isSliceD (tdesc P t)=true):=by simp[zcj,AV.lenOf]
@[go_sem] theorem zBa{t:TypeId}{s:ByteArray}:zcj P t (.one (.t (.lit (.string s))))=(tdesc P t = .string):=rfl
@[go_sem] theorem st_len{t:TypeId}{x:Operand}:QW P m ⟨some d,.call { callee:=.builtin .len,args:=#[x],argTypes:=#[t] },ty,pos,af,g⟩ σ K =
  ((tok P t=true/\zcj P t (ev σ.s x))/\K (litI .i64 ((ev σ.s x).lenOf.getD 0:Nat)) σ):=rfl
@[go_sem] theorem zCi{f:FuncId}{as:List Operand}{ats:Array TypeId}:QW P m ⟨d',.call { callee:=.value (.func f),args:=as.toArray,argTypes:=ats },ty,pos,af,g⟩ σ K=ZK P m f (as.map (ev σ.s)) σ K:=by
 simp[QW,zaM,ev,zdb]
@[go_sem] theorem zCj{t:Tmp}{as:List Operand}{ats:Array TypeId}:QW P m ⟨d',.call { callee:=.value (.tmp t),args:=as.toArray,argTypes:=ats },ty,pos,af,g⟩ σ K=zaM P m (σ.s t) (as.map (ev σ.s)) σ K:=by
 simp[QW,ev]
@[go_sem] theorem zCk{f:FuncId}{caps:List (Nat×Nat)}{as:List AV}:zaM P m (.one (.fn f caps)) as σ K=ZK P m f (as++caps.map zjX) σ K:=rfl
@[go_sem] theorem zBb{f:FuncId}{caps:List (List T)}{as:List AV}:zaM P m (.one (.t (.clo f caps))) as σ K=ZK P m f (as++caps.map AV.iptr) σ K:=rfl
@[go_sem] theorem zAq{b off:Nat}:zba (.one (.ptr b off))=true:=rfl
@[go_sem] theorem zzY{cs:List T}:zba (.iptr cs)=true:=rfl
@[go_sem] theorem zAr{b off k:Nat}:zcM (.one (.ptr b off)) k = .one (.ptr b (off+k)):=rfl
@[go_sem] theorem zzZ{cs:List T}{k:Nat}:zcM (.iptr cs) k = .iptr (cs.drop k):=rfl
@[go_sem] theorem zCl{k:IntKind}{n:Int}:idx (litI k n)=n.toNat:=rfl
@[go_sem] theorem zzL{k:IntKind}{n:Int}{N:Nat}:zaC (litI k n) N=(0<=n/\n<N):=rfl
@[go_sem] theorem zBc{nl:Option Bool}{xs:List (List T)}:(AV.one (.t (.seq nl xs))).lenOf=some xs.length:=rfl
@[go_sem] theorem zBd{b s o n:Nat}:(AV.one (.vec b s o n)).lenOf=some n:=rfl
@[go_sem] theorem zBe{s:ByteArray}:(AV.one (.t (.lit (.string s)))).lenOf=some s.size:=rfl
@[go_sem] theorem zBf{sz i:Nat}{nl:Option Bool}{xs:List (List T)}:zcA sz (.one (.t (.seq nl xs))) i = .iptr (xs.getD i []):=rfl
@[go_sem] theorem zBg{sz i b s o n:Nat}:zcA sz (.one (.vec b s o n)) i = .one (.ptr b (o+i*sz)):=rfl
@[go_sem] theorem zAs{sz i:Nat}{nl:Option Bool}{xs:List (List T)}:zdW sz (.one (.t (.seq nl xs))) i=∀ x∈xs,x.length=sz:=rfl
@[go_sem] theorem zAt{sz i b s o n:Nat}:zdW sz (.one (.vec b s o n)) i=(s=sz):=rfl
@[go_sem] theorem zBh{nl:Option Bool}{xs:List (List T)}{i:AV}:zfw (.one (.t (.seq nl xs))) i=zaC i xs.length:=rfl
@[go_sem] theorem zBi{b s o n:Nat}{i:AV}:zfw (.one (.vec b s o n)) i=zaC i n:=rfl
@[go_sem] theorem zAu{sz lo hi:Nat}{nl:Option Bool}{xs:List (List T)}:zcN sz (.one (.t (.seq nl xs))) lo hi = .one (.t (.seq nl ((xs.take hi).drop lo))):=rfl
@[go_sem] theorem zAv{sz lo hi b s o n:Nat}:zcN sz (.one (.vec b s o n)) lo hi = .one (.vec b s (o+lo*sz) (hi-lo)):=rfl
@[go_sem] theorem zz0{sz:Nat}{nl:Option Bool}{xs:List (List T)}:zhj sz (.one (.t (.seq nl xs)))=∀ x∈xs,x.length=sz:=rfl
@[go_sem] theorem zz1{sz b s o n:Nat}:zhj sz (.one (.vec b s o n))=(s=sz):=rfl
@[go_sem] theorem zz2{t:TypeId}{nl:Option Bool}{xs:List (List T)}:zex P t (.one (.t (.seq nl xs)))=(isSliceD (tdesc P t)=true/\tok P (telem P t)=true/\∀ x∈xs,x.length=tsize P (telem P t)):=rfl
@[go_sem] theorem zz3{t:TypeId}{b s o n:Nat}:zex P t (.one (.vec b s o n))=(isSliceD (tdesc P t)=true/\tok P (telem P t)=true/\s=tsize P (telem P t)):=rfl
@[go_sem] theorem zz4{t:TypeId}{s:ByteArray}:zex P t (.one (.t (.lit (.string s))))=(tdesc P t = .string):=rfl
@[go_sem] theorem zAw{sz lo hi:Nat}{s:ByteArray}:zcN sz (.one (.t (.lit (.string s)))) lo hi = .one (.t (.lit (.string (s.extract lo hi)))):=rfl
@[go_sem] theorem zCm{op:BinOp}{x y:ByteArray}:zaR op (.one (.t (.lit (.string x)))) (.one (.t (.lit (.string y))))=zea op x y:=rfl
@[go_sem] theorem zCn{x y:ByteArray}:zea .eql x y=some (QO (x.toList==y.toList)):=rfl
@[go_sem] theorem zCo{x y:ByteArray}:zea .neq x y=some (QO (!(x.toList==y.toList))):=rfl
@[go_sem] theorem zCp{x y:ByteArray}:zea .lss x y=some (QO (Op.bytesLess x.toList y.toList)):=rfl
@[go_sem] theorem zCq{x y:ByteArray}:zea .leq x y=some (QO (Op.bytesLess x.toList y.toList||x.toList==y.toList)):=rfl
@[go_sem] theorem zCr{x y:ByteArray}:zea .gtr x y=some (QO (!(Op.bytesLess x.toList y.toList||x.toList==y.toList))):=rfl
@[go_sem] theorem zCs{x y:ByteArray}:zea .geq x y=some (QO (!(Op.bytesLess x.toList y.toList))):=rfl
@[go_sem] theorem zBj{op:BinOp}{s:ByteArray}:zd2 op (.one (.t (.lit (.string s))))=True:=rfl
@[go_sem] theorem zBk{t:TypeId}{s:ByteArray}:zcT P t (.one (.t (.lit (.string s))))=True:=rfl
@[go_sem] theorem zz5{s:ByteArray}:(AV.one (.t (.lit (.string s)))).cellsOf=some [.t (.lit (.string s))]:=rfl
@[go_sem] theorem zCt{b s o k:Nat}{l h n:Nat}:zfG (.one (.vec b s o k)) (some l) (some h) n=(l<=h/\h<=n/\(l=0\/l<h)):=rfl
@[go_sem] theorem zz6{d:Nat}:zau d none=some d:=rfl
@[go_sem] theorem zz7{d:Nat}{k:IntKind}{n:Int}:zau d (some (litI k n))=if 0<=n then some n.toNat else none:=rfl
@[go_sem] theorem zCu{op:BinOp}{k:IntKind}{x y:Int}:zaR op (litI k x) (litI k y)=(zaQ op k x y).map fun v=>.one (.t (.lit v)):=by simp[litI,zaR]
@[go_sem] theorem zAx{cs:List T}:zaR .neq (.iptr cs) (.one (.t (.lit (.pointer none))))=some (QO true):=rfl
@[go_sem] theorem zAy{cs:List T}:zaR .eql (.iptr cs) (.one (.t (.lit (.pointer none))))=some (QO false):=rfl
@[go_sem] theorem zAz:zaR .neq (.one (.t (.lit (.pointer none)))) (.one (.t (.lit (.pointer none))))=some (QO false):=rfl
@[go_sem] theorem zAA:zaR .eql (.one (.t (.lit (.pointer none)))) (.one (.t (.lit (.pointer none))))=some (QO true):=rfl
@[go_sem] theorem zBl{op:BinOp}:zd2 op (.one (.t (.lit (.pointer none))))=True:=rfl
@[go_sem] theorem zAB{P:Program}{t:TypeId}{cs:List T}:zcT P t (.iptr cs)=(tok P t=true/\zhy (tdesc P t)=true):=rfl
@[go_sem] theorem zAC{P:Program}{t:TypeId}:zcT P t (.one (.t (.lit (.pointer none))))=(tok P t=true/\zhy (tdesc P t)=true):=rfl
@[go_sem] theorem zCv{x y:Bool}:zaR .eql (QO x) (QO y)=some (QO (x==y)):=rfl
@[go_sem] theorem zCw{x y:Bool}:zaR .neq (QO x) (QO y)=some (QO (!(x==y))):=rfl
@[go_sem] theorem zCx{xs:List (List T)}{n:Bool}:zaR .eql (.one (.t (.seq (some n) xs))) (.one (.t (.seq (some true) [])))=some (QO n):=rfl
@[go_sem] theorem zAD{xs:List (List T)}{n:Bool}:zaR .neq (.one (.t (.seq (some n) xs))) (.one (.t (.seq (some true) [])))=some (QO (!n)):=rfl
@[go_sem] theorem zCy{k:IntKind}{x y:Int}:zaQ .add k x y=some (.int k (k.wrap (x+y))):=rfl
@[go_sem] theorem zCz{k:IntKind}{x y:Int}:zaQ .sub k x y=some (.int k (k.wrap (x-y))):=rfl
@[go_sem] theorem zCA{k:IntKind}{x y:Int}:zaQ .mul k x y=some (.int k (k.wrap (x*y))):=rfl
@[go_sem] theorem zCB{k:IntKind}{x y:Int}:zaQ .quo k x y=some (.int k (k.wrap (Int.tdiv x y))):=rfl
@[go_sem] theorem zCC{k:IntKind}{x y:Int}:zaQ .rem k x y=some (.int k (Int.tmod x y)):=rfl
@[go_sem] theorem zCD{k:IntKind}{x y:Int}:zaQ .eql k x y=some (.bool (decide (x=y))):=rfl
@[go_sem] theorem zCE{k:IntKind}{x y:Int}:zaQ .neq k x y=some (.bool (decide (x≠y))):=rfl
@[go_sem] theorem zCF{k:IntKind}{x y:Int}:zaQ .lss k x y=some (.bool (decide (x<y))):=rfl
@[go_sem] theorem zCG{k:IntKind}{x y:Int}:zaQ .leq k x y=some (.bool (decide (x<=y))):=rfl
@[go_sem] theorem zCH{k:IntKind}{x y:Int}:zaQ .gtr k x y=some (.bool (decide (y<x))):=rfl
@[go_sem] theorem zCI{k:IntKind}{x y:Int}:zaQ .geq k x y=some (.bool (decide (y<=x))):=rfl
@[go_sem] theorem zBm{x:Int}:zaQ .shr .u64 x 1=some (.int .u64 (x.fdiv 2)):=rfl
@[go_sem] theorem zBn{op:BinOp}{k:IntKind}{y:Int}:zd2 op (litI k y)=(zjh op=true->y≠0):=rfl
@[go_sem] theorem zDB{op:BinOp}{b:Bool}:zd2 op (QO b)=True:=rfl
@[go_sem] theorem zBo{op:BinOp}{nl:Option Bool}{xs:List (List T)}:zd2 op (.one (.t (.seq nl xs)))=True:=rfl
@[go_sem] theorem zBp{t:TypeId}{k:IntKind}{y:Int}:zcT P t (litI k y)=True:=rfl
@[go_sem] theorem zDC{t:TypeId}{b:Bool}:zcT P t (QO b)=(tok P t=true/\tdesc P t = .bool):=rfl
@[go_sem] theorem zBq{t:TypeId}{nl:Option Bool}{xs:List (List T)}:zcT P t (.one (.t (.seq nl xs)))=(tok P t=true/\isSliceD (tdesc P t)=true):=rfl
@[go_sem] theorem zDD{b:Bool}:unV .not (QO b)=some (QO (!b)):=rfl
@[go_sem] theorem zDE{k:IntKind}{n:Int}:unV .neg (litI k n)=some (litI k (k.wrap (0-n))):=rfl
@[go_sem] theorem zBr{s t:TypeId}{k:IntKind}{n:Int}:zeJ P s t (litI k n)=(intD (tdesc P t)).map fun k=>litI k (k.wrap n):=rfl
def zrh(place:Nat->Option (Nat×Nat))(base:List C)(rest:List (Nat×AV)):Option (Nat×Nat)->Option (List C)->Option (List C)
 |some (off,size),some cs=>if cs.length=size/\off+size<=base.length then zaZ place (Yh base off cs) rest else none
 |_,_=>none
def zjF(place:Nat->Option (Nat×Nat))(parts:List (Nat×AV)):Option (List C)->Option (List C)
 |some z=>zaZ place z parts
 |none=>none
@[go_sem] theorem zBs{place:Nat->Option (Nat×Nat)}{base:List C}:zaZ place base []=some base:=rfl
@[go_sem] theorem zAE{place:Nat->Option (Nat×Nat)}{base:List C}{i:Nat}{v:AV}{rest:List (Nat×AV)}:zaZ place base ((i,v)::rest)=zrh place base rest (place i) v.cellsOf:=rfl
@[go_sem] theorem zAF{place:Nat->Option (Nat×Nat)}{base cs:List C}{off size:Nat}{rest:List (Nat×AV)} :
  zrh place base rest (some (off,size)) (some cs)=if cs.length=size/\off+size<=base.length then zaZ place (Yh base off cs) rest else none:=rfl
@[go_sem] theorem zAG{place:Nat->Option (Nat×Nat)}{z:List C}{parts:List (Nat×AV)}:zjF place parts (some z)=zaZ place z parts:=rfl
@[go_sem] theorem zBt{t:TypeId}{parts:List (Nat×AV)}:zeB P t parts=zjF (placesA P t) parts (tzero P t):=rfl
def tsOf(sz n:Nat):Option (List C)->Option AV
 |some cs=>(zeP cs).map fun ts=>.one (.t (.seq (some false) (zaG sz n ts)))
 |none=>none
@[go_sem] theorem zBu{sz n:Nat}{cs:List C}:tsOf sz n (some cs)=(zeP cs).map fun ts=>.one (.t (.seq (some false) (zaG sz n ts))):=rfl
@[go_sem] theorem zCJ:zeP []=some []:=rfl
@[go_sem] theorem zBv{x:T}{cs:List C}:zeP (.t x::cs)=(zeP cs).map (x::·):=by
 simp only[zeP,zdi];cases zdi (fun|.t x=>some x|_=>none) cs<;>rfl
@[go_sem] theorem zzG{t:TypeId}{n:Nat}{parts:List (Nat×AV)}:zb8 P t n parts =
  tsOf (tsize P (telem P t)) n (zjF (fun i=>some (i*tsize P (telem P t),tsize P (telem P t))) parts ((tzero P (telem P t)).map (Zg n))):=by
 unfold zb8
 dsimp only
 cases hz:tzero P (telem P t)with
 |none=>rfl
 |some z=>simp only[wcD,zjF];cases zaZ _ (Zg n z) parts<;>rfl
@[go_sem] theorem zBw{z:List C}:Zg 0 z=[]:=rfl
@[go_sem] theorem zCK{n:Nat}{z:List C}:Zg (n+1) z=z++Zg n z:=zky n z
@[go_sem] theorem zAH{sz:Nat}{l:List T}:zaG sz 0 l=[]:=rfl
@[go_sem] theorem zAI{sz n:Nat}{l:List T}:zaG sz (n+1) l=l.take sz::zaG sz n (l.drop sz):=rfl
@[go_sem] theorem zBx{n:Nat}{cs:List C}:zhG n (.agg cs)=(n<=cs.length):=rfl
@[go_sem] theorem zzM{cs:List C}:zeY (.agg cs)=cs:=rfl
attribute [go_sem] Yh zjh zcO
end
end Go.Abs
namespace Go.Abs
open Go
section
variable {P:Program} {σ:St} {t:TV}
@[go_sem] theorem zBy{r:ResultVar}:zdt P [r] t .ret σ=(zal P σ r/\FzA σ.H (zaT P σ r) t):=by simp[zdt,zb7]
@[go_sem] theorem zBz{r r':ResultVar}:zdt P [r,r'] t .ret σ=((zal P σ r/\zal P σ r')/\FzA σ.H (.tup [zaT P σ r,zaT P σ r']) t):=by simp[zdt,zb7]
@[go_sem] theorem zBA{r r' r'':ResultVar}:zdt P [r,r',r''] t .ret σ=((zal P σ r/\zal P σ r'/\zal P σ r'')/\FzA σ.H (.tup [zaT P σ r,zaT P σ r',zaT P σ r'']) t):=by simp[zdt,zb7]
@[go_sem] theorem zBB{n:Nat}:zal P σ (.tmp n)=True:=rfl
@[go_sem] theorem zAJ{a:Nat}{ty:TypeId}:zal P σ (.cell a ty)=(tok P ty=true/\(ZJ σ.H (σ.s a)).isSome=true/\(if tagg P ty then tsize P ty else 1)<=((ZJ σ.H (σ.s a)).getD []).length):=rfl
@[go_sem] theorem zCL{n:Nat}:zaT P σ (.tmp n)=σ.s n:=rfl
@[go_sem] theorem zBC{a:Nat}{ty:TypeId}:zaT P σ (.cell a ty)=(if tagg P ty then .agg (((ZJ σ.H (σ.s a)).getD []).take (tsize P ty))else .one (((ZJ σ.H (σ.s a)).getD []).headD default)):=rfl
theorem zgq{H:QD}:∀ (t:TV),FzA H (emb t) t
 |.one x=>.one .t
 |.agg xs=>.agg (by simp) fun j h h'=>by simp only[Qq];exact .t
 |.ip _=>.ip
 |.tup xs=>.tup (by rw[zgN]) fun j h h'=>by rw[zg9 xs j h h'];exact zgq _
decreasing_by have:=wcT (Qh h');simp only[TV.tup.sizeOf_spec];omega
theorem zri{H:QD}{x:AV}(h:x=emb t):FzA H x t:=h▸zgq t
@[go_sem] theorem zDF{H:QD}{b b':Bool}:FzA H (QO b) (.one (.lit (.bool b')))=(b=b'):=by
 refine propext ⟨fun h=>?_,fun h=>h▸zgq (.one (.lit (.bool b)))⟩;cases h with|one h=>cases h;rfl
@[go_sem] theorem fz_int{H:QD}{k:IntKind}{n n':Int}:FzA H (litI k n) (.one (.lit (.int k n')))=(n=n'):=by
 refine propext ⟨fun h=>?_,fun h=>h▸zgq (.one (.lit (.int k n)))⟩;cases h with|one h=>cases h;rfl
end
@[go_sem] theorem beqT(b:Bool):(b==true)=b:=by cases b<;>rfl
@[go_sem] theorem beqF(b:Bool):(b==false)=!b:=by cases b<;>rfl
attribute [go_sem] waq waH List.getD_cons_zero List.getD_cons_succ List.getD_nil Option.isSome_some waV wcD wdV wdf Qs Qx Qu if_true if_false
 wbM List.drop_succ_cons List.drop_nil wcU wao List.headD_cons Qe Qi decide_true decide_false wb5 wbw wal Qm
 wcV wcS way implies_true false_implies waM wa4 wa1 Bool.true_eq_false wap waY wdh wah
attribute [go_sem] emb emb.embs Bool.true_beq Bool.false_beq Bool.not_not wcC wdW wbo wcE
theorem GStep.refl(σ:St):GStep σ σ:=fun ρ ok _ w h=>⟨ρ,ok,h,Goes.refl ρ ok w⟩
theorem GStep.trans{σ σ₁ σ₂:St}(h:GStep σ σ₁)(h':GStep σ₁ σ₂):GStep σ σ₂:=fun ρ ok a w hs=>by
 obtain⟨ρ₁,ok₁,s₁,g₁⟩:=h ρ ok a w hs;obtain⟨ρ₂,ok₂,s₂,g₂⟩:=h' ρ₁ ok₁ a w s₁;exact⟨ρ₂,ok₂,s₂,g₁.trans g₂⟩
theorem zqy{P:Program}{ops:Array Oper}{Q:St->Prop}{σ σ':St}(hg:GStep σ σ')(h:zgK P ops Q σ'):zgK P ops Q σ:=by
 rcases h with h|h
 .obtain⟨m,bl,σ1,h0,h1,h2,h3⟩:=h
  exact .inl ⟨m,bl,σ1,hg.trans h0,h1,h2,h3⟩
 .exact .inr (h.weaken hg)
def Z9(D:List Nat):C->Bool
 |.t _=>true
 |.ptr b _=>D.contains b
 |.vec b _ _ _=>D.contains b
 |.fn _ caps=>caps.all fun p=>D.contains p.1
def zbW(D:List Nat):AV->Bool
 |.one c=>Z9 D c
 |.agg cs=>cs.all (Z9 D)
 |.iptr _=>true
 |.tup []=>true
 |.tup _=>false
 |.junk=>true
theorem RC.keep{w:World}{ok:Nat->Prop}{ρ:Nat->Option Nat}{D:List Nat}{c:C}{v:Value}(h:RC w ok ρ c v)(hr:Z9 D c=true):RC w ok (fun b=>if b∈D then ρ b else none) c v:=by
 cases h with
 |t h=>exact .t h
 |ptr h=>simp only[Z9,waE]at hr;exact .ptr (by rw[Qc hr];exact h)
 |vec h h1 h2 h3=>simp only[Z9,waE]at hr;exact .vec (by rw[Qc hr];exact h) h1 h2 h3
 |fn h h1 =>
  refine .fn h fun i hi Y6=>?_
  obtain⟨c,h2,h3⟩:=h1 i hi Y6;simp only[Z9,wai,waE]at hr;exact⟨c,by rw[Qc (hr _ (Qh hi))];exact h2,h3⟩
theorem RA.keep{w:World}{ok:Nat->Prop}{ρ:Nat->Option Nat}{D:List Nat}{x:AV}{v:Value}(h:RA w ok ρ x v)(hr:zbW D x=true):RA w ok (fun b=>if b∈D then ρ b else none) x v:=by
 cases h with
 |one h=>exact .one (h.keep hr)
 |agg h h1 =>
  simp only[zbW,wai]at hr;exact .agg h fun j hj Yz=>(h1 j hj Yz).keep (hr _ (Qh hj))
 |iptr h1 h2 h3=>exact .iptr h1 h2 h3
 |@tup xs vs h h1 =>
  cases xs with
  |nil=>exact .tup h fun j hj=>by simp at hj
  |cons _ _=>simp[zbW]at hr
 |junk=>exact .junk
def zcS:List (Nat×AV)->Nat->AV
 |[],_=>.junk
 |(k,v)::l,t=>if t=k then v else zcS l t
def QB:List (Nat×List C)->Nat->Option (List C)
 |[],_=>none
 |(k,v)::l,t=>if t=k then some v else QB l t
def stL(n:Nat)(l:List (Nat×AV))(h:List (Nat×List C)):St:=⟨n,zcS l,QB h⟩
@[go_sem] theorem stL_n{n:Nat}{l:List (Nat×AV)}{h:List (Nat×List C)}:(stL n l h).n=n:=rfl
@[go_sem] theorem zrp{n t:Nat}{l:List (Nat×AV)}{h:List (Nat×List C)}:(stL n l h).s t=zcS l t:=rfl
@[go_sem] theorem stL_H{n:Nat}{l:List (Nat×AV)}{h:List (Nat×List C)}:(stL n l h).H=QB h:=rfl
@[go_sem] theorem zBE{t:Nat}:zcS [] t = .junk:=rfl
@[go_sem] theorem zAK{k t:Nat}{v:AV}{l:List (Nat×AV)}:zcS ((k,v)::l) t=if t=k then v else zcS l t:=rfl
@[go_sem] theorem zBF{t:Nat}:QB [] t=none:=rfl
@[go_sem] theorem zfN{k t:Nat}{v:List C}{l:List (Nat×List C)}:QB ((k,v)::l) t=if t=k then some v else QB l t:=rfl
def zgG(σ:St):List (Nat×AV)->Prop
 |[]=>True
 |(k,v)::l=>(σ.s k=v\/v = .junk)/\zgG σ l
def ZA(σ:St):List (Nat×List C)->Prop
 |[]=>True
 |(k,v)::l=>σ.H k=some v/\ZA σ l
def zhJ(D:List Nat):List (Nat×AV)->Bool
 |[]=>true
 |(_,v)::l=>zbW D v&&zhJ D l
def QT(D:List Nat):List (Nat×List C)->Bool
 |[]=>true
 |(_,v)::l=>v.all (Z9 D)&&QT D l
theorem zgG.look{σ:St}:∀ {l:List (Nat×AV)},zgG σ l->∀ t,zcS l t = .junk\/zcS l t=σ.s t
 |[],_,t=>.inl rfl
 |(k,v)::l,h,t=>by
  unfold zcS;split
  .rename_i e;subst e
   rcases h.1 with h1|h1
   .exact .inr h1.symm
   .exact .inl h1
  .exact zgG.look h.2 t
theorem ZA.look{σ:St}:∀ {l:List (Nat×List C)},ZA σ l->∀ b cs,QB l b=some cs->σ.H b=some cs/\b∈l.map (·.1)
 |[],_,t=>fun cs h=>by cases h
 |(k,v)::l,h,t=>fun cs hl=>by
  unfold QB at hl;split at hl
  .rename_i e;subst e;cases hl;exact⟨h.1,by simp⟩
  .have:=ZA.look h.2 t cs hl;exact⟨this.1,by simp[this.2]⟩
theorem zmY{D:List Nat}:∀ {l:List (Nat×AV)},zhJ D l=true->∀ t,zbW D (zcS l t)=true
 |[],_,_=>rfl
 |(k,v)::l,h,t=>by
  simp only[zhJ,wag]at h;unfold zcS;split
  .exact h.1
  .exact zmY h.2 t
theorem zj9{D:List Nat}:∀ {l:List (Nat×List C)},QT D l=true->∀ b cs,QB l b=some cs->∀ c∈cs,Z9 D c=true
 |[],_,_=>fun cs h=>by cases h
 |(k,v)::l,h,t=>fun cs hl=>by
  simp only[QT,wag,wai]at h;unfold QB at hl;split at hl
  .cases hl;exact h.1
  .exact zj9 h.2 t cs hl
theorem ziq:∀ {l:List (Nat×List C)} {b:Nat},b∈l.map (·.1)->∃ cs,QB l b=some cs
 |(k,v)::l,b,h=>by
  unfold QB;split
  .exact⟨v,rfl⟩
  .rename_i hne
   simp only[waq,wab]at h;rcases h with h|h
   .exact Qo h hne
   .exact ziq h
theorem Q7{σ:St}{n:Nat}{l:List (Nat×AV)}{h:List (Nat×List C)}(hn:σ.n=n)(hs:zgG σ l)(hh:ZA σ h)(hr:zhJ (h.map (·.1)) l=true)(Jr:QT (h.map (·.1)) h=true):GStep σ (stL n l h):=by
 intro ρ ok a w s;refine⟨fun b=>if b∈h.map (·.1)then ρ b else none,ok,⟨⟨fun b cs hb=>?_,fun b hb=>?_,fun b b' c h1 h2=>?_,fun n hn=>⟨(s.okR n hn).1,fun b hb=>?_⟩⟩,by rw[s.size];exact hn,fun t=>?_,s.defers,by have:=s.small;rw[hn]at this;exact this⟩,⟨Qd _,fun _ _ _=>rfl,fun _ _ _ h=>h,fun b n hb=>?_,fun _ h=>h,fun _ h=>.inl h,fun b _=>by show(if _ then _ else _)=_\/(if _ then _ else _)=_;split<;>simp,⟨rfl,rfl⟩⟩⟩
 .obtain⟨k1,k2⟩:=hh.look b cs hb
  obtain⟨c,arr,el,h1,h2,h3,h4⟩:=s.heap b cs k1;refine⟨c,arr,el,by simp only[k2,if_true];exact h1,h2,h3,fun j hj Yz=>(h4 j hj Yz).keep (zj9 Jr b cs hb _ (Qh hj))⟩
 .split
  .rename_i hm
   obtain⟨cs,YL⟩:=ziq hm;have hb':QB h b=none:=hb;rw[YL]at hb';cases hb'
  .rfl
 .split at h1
  .split at h2
   .exact s.inj b b' c h1 h2
   .cases h2
  .cases h1
 .split at hb
  .exact(s.okR n hn).2 b hb
  .cases hb
 .rcases hs.look t with h1|h1
  .rw[zrp,h1];exact .junk
  .have:=s.slots t
   have hk:=zmY hr t;rw[zrp,h1]at *
   exact this.keep hk
 .split at hb
  .exact .inl ⟨b,hb⟩
  .cases hb
@[go_sem] theorem zwC{D:List Nat}{x:T}:Z9 D (.t x)=true:=rfl
@[go_sem] theorem zBG{D:List Nat}{b o:Nat}:Z9 D (.ptr b o)=D.contains b:=rfl
@[go_sem] theorem ztq{D:List Nat}{b s o n:Nat}:Z9 D (.vec b s o n)=D.contains b:=rfl
@[go_sem] theorem zCS{D:List Nat}{f:FuncId}{caps:List (Nat×Nat)}:Z9 D (.fn f caps)=caps.all fun p=>D.contains p.1:=rfl
@[go_sem] theorem zBH{D:List Nat}{c:C}:zbW D (.one c)=Z9 D c:=rfl
@[go_sem] theorem zBI{D:List Nat}{cs:List C}:zbW D (.agg cs)=cs.all (Z9 D):=rfl
@[go_sem] theorem zAL{D:List Nat}{cs:List T}:zbW D (.iptr cs)=true:=rfl
@[go_sem] theorem zAM{D:List Nat}:zbW D (.tup [])=true:=rfl
@[go_sem] theorem zz8{D:List Nat}:zbW D undefA=true:=rfl
@[go_sem] theorem zAN{D:List Nat}:zbW D .junk=true:=rfl
@[go_sem] theorem zAO{D:List Nat}{k:IntKind}{n:Int}:zbW D (litI k n)=true:=rfl
@[go_sem] theorem zAP{D:List Nat}{b:Bool}:zbW D (QO b)=true:=rfl
attribute [go_sem] zgG ZA zhJ QT wdN List.contains_nil wdQ List.all_nil wds wcY Bool.true_or wb7
theorem zir{K K':St->Prop}{Q Q':Exit->St->Prop}(hK:∀ σ,K σ->K' σ)(hQ:∀ e σ,Q e σ->Q' e σ):∀ e σ,zec K Q e σ->zec K' Q' e σ:=by
 intro e σ h;cases e<;>first|exact hK _ h|exact hQ _ _ h
theorem ZK.mono{P:Program}{m:Nat}{f:FuncId}{as:List AV}{σ:St}{K K':AV->St->Prop}(hK:∀ v σ,K v σ->K' v σ)(h:ZK P m f as σ K):ZK P m f as σ K':=by
 rw[znu]at h ⊢;obtain⟨v,τ,h1,h2⟩:=h;exact⟨v,τ,h1,hK _ _ h2⟩
theorem zmN{P:Program}{m:Nat}{ops:Array Oper}{q q':St->Prop}(hq:∀ σ,q σ->q' σ):∀ (l:List Oper) (σ:St),Yf P m ops.toList q l σ->Yf P m ops.toList q' l σ:=by
 intro l
 induction l with
 |nil=>intro σ h;exact hq σ h
 |cons o l ih =>
  intro σ h;rw[zgR]at h ⊢;obtain⟨σ',h1,h2⟩:=h;exact⟨σ',h1,ih σ' h2⟩
theorem zn9{P:Program}:∀ (c:Code) (Q Q':Exit->St->Prop),(∀ e σ,Q e σ->Q' e σ)->∀ σ,wpA P c Q σ->wpA P c Q' σ:=by
 intro c
 induction c with
 |skip=>intro Q Q' hq σ h;exact hq _ _ h
 |region id ops draw =>
  intro Q Q' hq σ h;simp only[wpA]at h ⊢;split at h
  .rename_i hd;rw[Qc hd]
   rcases h with h|h
   .obtain⟨m,bl,σ',h0,h1,hg,h2⟩:=h
    exact .inl ⟨m,bl,σ',h0,h1,hg,zmN (hq _) _ _ h2⟩
   .exact .inr (h.mono (hq _))
  .rename_i hd;rw[Qb hd];exact zmN (hq _) _ _ h
 |seq x y ihx ihy=>intro Q Q' hq σ h;exact ihx _ _ (zir (fun σ=>ihy _ _ hq σ) hq) σ h
 |cond c x y ihx ihy =>
  intro Q Q' hq σ h;simp only[wpA,BR]at h ⊢;split at h
  .exact ihx _ _ hq σ h
  .exact ihy _ _ hq σ h
  .exact h.elim
 |block id c ih =>
  intro Q Q' hq σ h;refine ih _ _ ?_ σ h;intro e σ h;cases e<;>simp only[zfr]at h ⊢<;>first|exact hq _ _ h|(split at h<;>rename_i hi<;>first|(rw[Qc hi];exact hq _ _ h)|(rw[Qb hi];exact hq _ _ h))
 |loop c ih =>
  intro Q Q' hq σ h;obtain⟨k,h⟩:=h;refine⟨k,?_⟩
  induction k generalizing σ with
  |zero=>exact h.elim
  |succ k ihk =>
   obtain⟨σ',h1,h2⟩:=h;exact⟨σ',h1,ih _ _ (zir (fun σ=>ihk σ) hq) σ' h2⟩
 |exit id=>intro Q Q' hq σ h;exact hq _ _ h
 |ret=>intro Q Q' hq σ h;exact hq _ _ h
 |_=>intro Q Q' hq σ h;exact h
theorem zoa{P:Program}{c:Code}{Q:Exit->St->Prop}:∀ (k:Nat) (σ:St),zdm (wpA P c) Q k σ->zdm (wpA P c) Q (k+1) σ
 |0,_,h=>h.elim
 |k+1,_,⟨σ',h1,h2⟩=>⟨σ',h1,zn9 c _ _ (zir (zoa k) fun _ _ h=>h) σ' h2⟩
theorem zuO{P:Program}{c:Code}{Q:Exit->St->Prop}{k k':Nat}(hk:k<=k'){σ:St}(h:zdm (wpA P c) Q k σ):zdm (wpA P c) Q k' σ:=by
 obtain⟨d,rfl⟩:=Nat.exists_eq_add_of_le hk
 induction d with
 |zero=>exact h
 |succ d ih=>exact zoa _ _ (ih (Nat.le_add_right _ _))
theorem zpr{B:(Exit->St->Prop)->St->Prop}{Q:Exit->St->Prop}{k:Nat}{σ σ':St}(hg:GStep σ σ')(h:zdm B Q k σ'):zdm B Q k σ:=by
 cases k with
 |zero=>exact h.elim
 |succ k=>obtain⟨σ₁,h1,h2⟩:=h;exact⟨σ₁,hg.trans h1,h2⟩
def zy7{ι:Type}(I:ι->Prop)(μ:ι->Nat)(f:ι->St)(x:ι)(s:St):Prop:=∃ y,I y/\μ y<μ x/\GStep s (f y)
theorem QK{P:Program}{c:Code}{Q:Exit->St->Prop}{σ:St}{ι:Type}(f:ι->St)(I:ι->Prop)(μ:ι->Nat)(x₀:ι)(h₀:GStep σ (f x₀))(hI:I x₀)
  (step:∀ x,I x->wpA P c (zec (zy7 I μ f x) Q) (f x)):zmo (wpA P c) Q σ:=by
 have key:∀ (n:Nat) (x:ι),μ x=n->I x->zdm (wpA P c) Q (n+1) (f x):=by
  intro n
  induction n using Nat.strongRecOn with
  |_ n ih =>
   intro x hx OG;refine⟨f x,GStep.refl _,zn9 c _ _ (zir (fun s=>?_) fun _ _ h=>h) _ (step x OG)⟩;rintro⟨y,OH,Yw,hg⟩;exact zpr hg (zuO (by omega) (ih (μ y) (by omega) y rfl OH))
 exact⟨_,zpr h₀ (key _ x₀ rfl hI)⟩
def eL{α:Type}(f:α->List T)(xs:List α):T:=.seq none (xs.map f)
def QM{α:Type}(f:α->List T)(xs:List α)(i:Nat):List T:=(xs.map f).getD i []
section
variable {P:Program} {α:Type} {f:α->List T} {xs:List α}
@[go_sem] theorem zCV:(AV.one (.t (eL f xs))).lenOf=some xs.length:=by simp[eL,AV.lenOf]
@[go_sem] theorem zCW{t:TypeId}:zcj P t (.one (.t (eL f xs)))=(isSliceD (tdesc P t)=true):=by simp[eL,zcj,AV.lenOf]
@[go_sem] theorem zCX{sz i:Nat}:zcA sz (.one (.t (eL f xs))) i = .iptr (QM f xs i):=rfl
@[go_sem] theorem zBN{sz i:Nat}:zdW sz (.one (.t (eL f xs))) i=∀ x∈xs,(f x).length=sz:=by simp[eL,zdW]
@[go_sem] theorem zCY{i:AV}:zfw (.one (.t (eL f xs))) i=zaC i xs.length:=by simp[eL,zfw,AV.lenOf]
@[go_sem] theorem zBO{sz lo hi:Nat}:zcN sz (.one (.t (eL f xs))) lo hi = .one (.t (eL f ((xs.take hi).drop lo))):=by simp[eL,zcN,List.map_drop,wdc]
@[go_sem] theorem zAT{t:TypeId}:zex P t (.one (.t (eL f xs)))=(isSliceD (tdesc P t)=true/\tok P (telem P t)=true/\∀ x∈xs,(f x).length=tsize P (telem P t)):=by simp[eL,zex,zhj]
@[go_sem] theorem zDJ{l h n:Nat}:zfG (.one (.t (eL f xs))) (some l) (some h) n=(l<=h/\h<=n):=by simp[eL,zfG]
@[go_sem] theorem zCZ{op:BinOp}:zd2 op (.one (.t (eL f xs)))=True:=rfl
@[go_sem] theorem zC0{t:TypeId}:zcT P t (.one (.t (eL f xs)))=(tok P t=true/\isSliceD (tdesc P t)=true):=rfl
theorem Q8{i:Nat}(h:i<xs.length):QM f xs i=f xs[i]:=by simp[QM,h]
@[go_sem] theorem zzN{x:T}:zba (.one (.t x))=false:=rfl
theorem Yr{H:QD}:FzA H (.one (.t (eL f xs))) (.one (eL f xs)):=.one .t
end
@[go_sem] theorem castZ:((0:Nat):Int)=0:=rfl
@[go_sem] theorem castS{n:Nat}:((n+1:Nat):Int)=(n:Int)+1:=by omega
@[go_sem] theorem castL{n:Nat}:((OfNat.ofNat n:Nat):Int)=OfNat.ofNat n:=rfl
attribute [go_sem] wbD Int.ofNat_eq_natCast
theorem Q6{n:Int}(h : -9223372036854775808<=n)(h':n<=9223372036854775807):IntKind.i64.wrap n=n:=IntWalk.i64_in _ ⟨h,h'⟩
theorem QE{n:Int}(h:0<=n)(h':n<18446744073709551616):IntKind.u64.wrap n=n:=by
 simp[IntKind.wrap,IntKind.bits,IntKind.signed];omega
theorem QG{n:Int}(h:0<=n)(h':n<4294967296):IntKind.u32.wrap n=n:=by
 simp[IntKind.wrap,IntKind.bits,IntKind.signed];omega
def jC(b:Nat):C->C
 |.ptr b' o=>if b'=b then .t .junk else .ptr b' o
 |.vec b' s o n=>if b'=b then .t .junk else .vec b' s o n
 |.fn f caps=>if caps.any (fun p=>p.1==b)then .t .junk else .fn f caps
 |.t x=>.t x
def jA(b:Nat):AV->AV
 |.one c=>.one (jC b c)
 |.agg cs=>.agg (cs.map (jC b))
 |.iptr cs=>.iptr cs
 |.tup []=>.tup []
 |_=>.junk
def St.renew(σ:St)(b:Nat)(new:List C):St:=⟨σ.n,fun t=>jA b (σ.s t),fun n=>if n=b then some new else(σ.H n).map (·.map (jC b))⟩
@[go_sem] theorem zEa{σ:St}{b:Nat}{new:List C}:(σ.renew b new).n=σ.n:=rfl
@[go_sem] theorem zgf{σ:St}{b t:Nat}{new:List C}:(σ.renew b new).s t=jA b (σ.s t):=rfl
@[go_sem] theorem zbk{σ:St}{b n:Nat}{new:List C}:(σ.renew b new).H n=if n=b then some new else(σ.H n).map (·.map (jC b)):=rfl
@[go_sem] theorem jA_one{b:Nat}{c:C}:jA b (.one c) = .one (jC b c):=rfl
@[go_sem] theorem jA_agg{b:Nat}{cs:List C}:jA b (.agg cs) = .agg (cs.map (jC b)):=rfl
@[go_sem] theorem zEb{b:Nat}{cs:List T}:jA b (.iptr cs) = .iptr cs:=rfl
@[go_sem] theorem zEc{b:Nat}:jA b .junk = .junk:=rfl
@[go_sem] theorem zDl{b:Nat}:jA b undefA=undefA:=rfl
@[go_sem] theorem zEd{b:Nat}{k:IntKind}{n:Int}:jA b (litI k n)=litI k n:=rfl
@[go_sem] theorem zEe{b:Nat}{x:Bool}:jA b (QO x)=QO x:=rfl
@[go_sem] theorem jC_t{b:Nat}{x:T}:jC b (.t x) = .t x:=rfl
@[go_sem] theorem jC_ptr{b b' o:Nat}:jC b (.ptr b' o)=if b'=b then .t .junk else .ptr b' o:=rfl
@[go_sem] theorem jC_vec{b b' s o n:Nat}:jC b (.vec b' s o n)=if b'=b then .t .junk else .vec b' s o n:=rfl
theorem RC.junked{w:World}{ok:Nat->Prop}{ρ ρ':Nat->Option Nat}{b:Nat}{c:C}{v:Value}(h:RC w ok ρ c v)(hρ:∀ b' n,b'≠b->ρ b'=some n->ρ' b'=some n):RC w ok ρ' (jC b c) v:=by
 have YR:=h.oneCell;cases h with
 |t h=>exact .t h
 |ptr h =>
  simp only[jC];split
  .exact .t (.junk YR)
  .exact .ptr (hρ _ _ ‹_› h)
 |vec h h1 h2 h3 =>
  simp only[jC];split
  .exact .t (.junk YR)
  .exact .vec (hρ _ _ ‹_› h) h1 h2 h3
 |fn h h1 =>
  simp only[jC];split
  .exact .t (.junk YR)
  .rename_i hn
   refine .fn h fun i hi Y6=>?_
   obtain⟨c,h2,h3⟩:=h1 i hi Y6;refine⟨c,hρ _ _ ?_ h2,h3⟩;intro e;exact hn (wbz.2 ⟨_,Qh hi,by simp[e]⟩)
theorem RA.junked{w:World}{ok:Nat->Prop}{ρ ρ':Nat->Option Nat}{b:Nat}{x:AV}{v:Value}(h:RA w ok ρ x v)(hρ:∀ b' n,b'≠b->ρ b'=some n->ρ' b'=some n):RA w ok ρ' (jA b x) v:=by
 cases h with
 |one h=>exact .one (h.junked hρ)
 |agg h h1=>exact .agg (by simpa using h) fun j hj Yz=>by simp only[Qq];exact(h1 j (by simpa using hj) Yz).junked hρ
 |iptr h1 h2 h3=>exact .iptr h1 h2 h3
 |@tup xs vs h h1 =>
  cases xs with
  |nil=>exact .tup h fun j hj=>by simp at hj
  |cons _ _=>exact .junk
 |junk=>exact .junk
section
variable {P:Program} {ρ:Nat->Option Nat} {ok:Nat->Prop} {σ:St} {a:Act} {w w₀:World}
theorem zg2{w w':World}(h:w'.heap=w.heap)(a:Addr):w'.cell? a=w.cell? a:=by simp only[World.cell?,h]
theorem zdu{sz:Nat}:∀ {l:List (List T)},(∀ x∈l,x.length=sz)->l.flatten.length=l.length*sz
 |[],_=>by simp
 |x::l,h=>by simp[-List.length_flatten,zdu (l:=l) fun y hy=>h y (by simp[hy]),h x (by simp),waX];omega
theorem zgS{sz:Nat}(UX:0<sz):∀ {l:List (List T)},(∀ x∈l,x.length=sz)->∀ j (hj:j<l.flatten.length),∃ (hi:j/sz<l.length) (hk:j%sz<l[j/sz].length),l.flatten[j]=l[j/sz][j%sz]
 |[],_,j,hj=>by simp at hj
 |x::l,hl,j,hj=>by
  have Us:=hl x (by simp);by_cases Lb:j<sz
  .have e1:j/sz=0:=wbm Lb
   have e2:j%sz=j:=wbr Lb;refine⟨by simp[e1],by simp[e1,e2,Us,Lb],?_⟩;simp only[wbx,e1,e2,wcG];rw[wbt (by omega)]
  .have e1:j/sz=(j-sz)/sz+1:=by rw[Nat.div_eq_sub_div UX (by omega)]
   have e2:j%sz=(j-sz)%sz:=Nat.mod_eq_sub_mod (by omega);obtain⟨h1,h2,h3⟩:=zgS UX (l:=l) (fun y hy=>hl y (by simp[hy])) (j-sz) (by have:=hj;simp only[wbx,Qj,Us]at this;omega);refine⟨by simp[e1];exact h1,by simp only[e1,e2,wcH];exact h2,?_⟩;simp only[wbx,e1,e2,wcH];rw[wbA (by omega)];simp only[Us];exact h3
theorem znx{nl:Option Bool}{xs:List (List T)}{v:Value}(h:RA w ok ρ (.one (.t (.seq nl xs))) v){sz:Nat}(XE:∀ x∈xs,x.length=sz) :
  ∃ A c,∃ vs:Array Value,v = .slice A xs.length c/\(∀ w',w'.heap=w.heap->(Builtin.firstCells sz xs.length v).run P w' = .ok vs w')/\vs.size=xs.flatten.length/\∀ j (hj:j<xs.flatten.length) (Yz:j<vs.size),RT w ok xs.flatten[j] vs[j]:=by
 obtain⟨A,c,sz',blk,off,u,rfl,g2,g0,g3,g4,g5,g6,g7,g8⟩:=h.seq_inv2;by_cases hx:xs.length*sz=0
 .have Xu:xs.flatten.length=0:=by rw[zdu XE];exact hx
  refine⟨A,c,#[],rfl,fun w' _=>?_,by rw[Xu];rfl,fun j hj=>by omega⟩;cases A with
  |none=>rfl
  |some ad =>
   unfold Builtin.firstCells;simp only[hx];rfl
 .have Ke:xs≠[]:=by rintro rfl;simp at hx
  have UX:0<sz:=wbN fun e=>hx (by rw[e,waR])
  obtain⟨k1,k2⟩:=g6 Ke;have Ws:sz'=sz:=by
   cases xs with
   |nil=>exact Qo rfl Ke
   |cons y ys=>rw[<-g5 y (by simp),<-XE y (by simp)]
  subst Ws;subst k1;refine⟨_,c,((List.range (xs.length*sz')).map fun j=>u (j/sz') (j%sz')).toArray,rfl,fun w' UJ=>?_,by simp[-List.length_flatten,zdu XE],fun j hj Yz=>?_⟩
  .unfold Builtin.firstCells
   simp only[];refine zeQ _ fun j hj=>?_
   obtain⟨h1,h2,h3⟩:=zgS UX XE j (by rw[zdu XE];exact hj);have:=g7 _ h1 _ h2;rw[show j/sz'*sz'+j%sz'=j by rw[Qt];exact wcj j sz']at this;rw[zg2 UJ];exact this
  .simp only[wcf,Qq,wc1]
   obtain⟨h1,h2,h3⟩:=zgS UX XE j hj;rw[h3];exact g8 _ h1 _ h2
theorem zm8{q:Question}(hq:q.forced=false):(choose q).run P w = .ok (q.cut (w.tape w.drawn q)) { w with drawn:=w.drawn+1 }:=by
 simp[choose,Sem.run,hq]
theorem zef{o:Oper}{x y:Operand}{t t':TypeId}(ho:o.op = .call { callee:=.builtin .append,args:=#[x,y],argTypes:=#[t,t'] }){v:Value}{w':World}
  (h:(Builtin.append_ #[t,t'] o.type #[a.eval x,a.eval y]).run P w = .ok v w'):(execOp a.eval o).run P w = .ok (.value v) w':=by
 simp only[execOp,ho,resolve,Sem.run_bind,Sem.run_pure,Result.andThen,wcO,waq,waH];unfold invoke builtin;simp only[];exact Yu h
theorem zny{t t' ty:TypeId}{A':Option Addr}{c0 off n c n' c':Nat}(h1:tok P t=true)(h2:isSliceD (tdesc P t)=true)(h3:tok P (telem P t)=true)(h4:tok P t'=true)(h5:isSliceD (tdesc P t')=true)
  (hc:n+n'<=c) {new:Array Value} (XM:(Builtin.firstCells (tsize P (telem P t)) n' (.slice A' n' c')).run P w = .ok new w) {w':World} (YN:(storeCells ⟨c0,off+n*tsize P (telem P t),none⟩ new.toList 0).run P w = .ok () w') :
  (Builtin.append_ #[t,t'] ty #[.slice (some ⟨c0,off,none⟩) n c,.slice A' n' c']).run P w = .ok (.slice (some ⟨c0,off,none⟩) (n+n') c) w':=by
 unfold Builtin.append_;simp only[wa2,wa3,wa7];rw[Sem.run_bind,ZE h1,zaK h2];simp only[Result.andThen];rw[Sem.run_bind,zaz h3];simp only[Result.andThen];rw[Sem.run_bind,ZE h4,zaK h5];simp only[Result.andThen];rw[Sem.run_bind];simp only[Result.andThen,Sem.run_pure,wa4,if_false,Builtin.lenOf];rw[Sem.run_bind];simp only[Sem.run_pure,Result.andThen,wcS,if_true];rw[Qc hc,Sem.run_bind,XM];simp only[Result.andThen];rw[Sem.run_bind,zcG,YN];rfl
theorem zil{t t' ty:TypeId}{A A':Option Addr}{n c n' c':Nat}(h1:tok P t=true)(h2:isSliceD (tdesc P t)=true)(h3:tok P (telem P t)=true)(h4:tok P t'=true)(h5:isSliceD (tdesc P t')=true)
  (hc:c<n+n') (hb:(n+n')*tbytes P (telem P t)<=2^47) (XN:0<tbytes P (telem P t)) {z:Value} (hz:(P.info? (telem P t)).bind (·.zero)=some z) {old new:Array Value} (Un:∀ w,w.heap=w₀.heap->(Builtin.firstCells (tsize P (telem P t)) n (.slice A n c)).run P w = .ok old w)
  (XM:∀ w,w.heap=w₀.heap->(Builtin.firstCells (tsize P (telem P t)) n' (.slice A' n' c')).run P w = .ok new w) (hw:w.heap=w₀.heap) :
  ∃ (k:Nat) (rest:Array Value),n+n'<=k/\rest.size=(k-(n+n'))*z.cells.size/\(Builtin.append_ #[t,t'] ty #[.slice A n c,.slice A' n' c']).run P w =
   .ok (.slice (some ⟨w.heap.size,0,none⟩) (n+n') k) { w with heap:=w.heap.push (.cells (old++new++rest) (telem P t)),drawn:=w.drawn+1 }:=by
 refine⟨(Question.appendCap (n+n') c (telem P t)).cut (w.tape w.drawn (Question.appendCap (n+n') c (telem P t))),Builtin.zeroCells z.cells ((Question.appendCap (n+n') c (telem P t)).cut (w.tape w.drawn (Question.appendCap (n+n') c (telem P t)))-(n+n')),?_,by simp[Builtin.zeroCells],?_⟩
 .simp only[Question.cut];omega
 .generalize hk:(Question.appendCap (n+n') c (telem P t)).cut (w.tape w.drawn (Question.appendCap (n+n') c (telem P t)))=k
  obtain⟨i,hi,Jw⟩:=zeg (w:=w) h3;have NE:tbytes P (telem P t)=i.bytes:=by simp[tbytes,hi]
  unfold Builtin.append_;simp only[wa2,wa3,wa7];rw[Sem.run_bind,ZE h1,zaK h2];simp only[Result.andThen];rw[Sem.run_bind,zaz h3];simp only[Result.andThen];rw[Sem.run_bind,ZE h4,zaK h5];simp only[Result.andThen];rw[Sem.run_bind];simp only[Result.andThen,Sem.run_pure,wa4,if_false,Builtin.lenOf];rw[Sem.run_bind];simp only[Sem.run_pure,Result.andThen,wcS,if_true,false_or];rw[Qb (by omega),Sem.run_bind,Jw];simp only[Result.andThen];rw[Qb (by rw[<-NE];intro h;omega),Sem.run_bind,Jw];simp only[Result.andThen];rw[Qb (by rw[<-NE];have:=growslice_fits hc (by simpa using hb);simp at this ⊢;omega),Sem.run_bind,zm8 rfl,hk];simp only[Result.andThen];obtain⟨i',Y6,NF⟩:=zeg (P:=P) (w:={ w with drawn:=w.drawn+1 }) h3;rw[Sem.run_bind,NF];simp only[Result.andThen];have Vl:∀ b:Nat,(askRoom b).run P { w with drawn:=w.drawn+1 } = .ok () { w with drawn:=w.drawn+1 }:=fun b=>by unfold askRoom;split<;>rfl
  rw[Sem.run_bind,Vl];simp only[Result.andThen];rw[Sem.run_bind,Un { w with drawn:=w.drawn+1 } hw];simp only[Result.andThen];rw[Sem.run_bind,XM { w with drawn:=w.drawn+1 } hw];simp only[Result.andThen];rw[Sem.run_bind,zee h3 hz];simp only[Result.andThen,newRow,newObj];rfl
theorem zpX{o:Oper}{d:Nat}{x y:Operand}{t t':TypeId}(ho:o.op = .call { callee:=.builtin .append,args:=#[x,y],argTypes:=#[t,t'] })(h1:tok P t=true)(h2:isSliceD (tdesc P t)=true)(h3:tok P (telem P t)=true)(h4:tok P t'=true)
  (h5:isSliceD (tdesc P t')=true) (hz:(tzero P (telem P t)).isSome=true) (Vk:((tzero P (telem P t)).getD []).length=tsize P (telem P t)) (XN:0<tbytes P (telem P t)) {nl:Option Bool} {ys:List (List T)} (hx:ev σ.s x = .one (.t (.seq (some true) []))) (hy:ev σ.s y = .one (.t (.seq nl ys))) (XE:∀ z∈ys,z.length=tsize P (telem P t))
  (hne:ys≠[]) (hb:ys.length*tbytes P (telem P t)<=2^47) (hd:σ.H d=none) (XD:d<PIN):zdj P o σ (.one (.vec d (tsize P (telem P t)) 0 ys.length)) (σ.withH (upd σ.H d (some (ys.flatten.map .t)))):=by
 intro ρ ok a w h;obtain⟨z,hz⟩:=wba.1 hz;rw[hz]at Vk;simp only[waV]at Vk;obtain⟨zv,Uz,Kn⟩:=zc1 hz;have VG:zv.cells.size=tsize P (telem P t):=by
  have:=(zcb (w:=w) (ok:=ok) (ρ:=ρ) Kn).1;rw[<-Vk,this];simp
 have Y3:=Zj h x;have Xx:=Zj h y;rw[hx]at Y3;rw[hy]at Xx;obtain⟨A,c,Kw,g2,g0,g3⟩:∃ A c,a.eval x = .slice A 0 c/\0<=c/\(A=none->c=0)/\A=none:=by
  generalize a.eval x=v at Y3;obtain⟨A,c,sz,blk,off,u,rfl,k2,k0,k3,_⟩:=Y3.seq_inv2;exact⟨A,c,rfl,k2,k0,k3 rfl⟩
 subst g3;obtain rfl:=g0 rfl;have YQ:0<ys.length:=wa6.2 hne;obtain⟨A',c',vs,Uo,Vi,Up,V8⟩:=znx (P:=P) Xx XE;have Xu:=zdu XE;rw[Uo]at Vi;obtain⟨k,rest,hk,Xt,Xc⟩:=zil (P:=P) (w:=w) (w₀:=w) (ty:=o.type) (A:=none) (A':=A') (n:=0) (c:=0) (n':=ys.length) (c':=c') h1 h2 h3 h4 h5 (by omega) (by simpa using hb) XN Uz (old:=#[]) (fun w' _=>rfl) Vi rfl;rw[waY]at hk Xt Xc;obtain⟨s1,s2⟩:=h.push (d:=d) XD hd (cs:=ys.flatten.map .t) (arr:=#[]++vs++rest) (el:=telem P t) (by rw[Qm];simp only[wcs,wbW];omega) (fun j hj Yz=>by
  simp only[Qm]at hj;simp only[Qq,wcs];rw[wbF (by omega)];exact .t (V8 j hj (by omega)))
 obtain⟨r1,r2⟩:=s1.drawn;refine⟨.slice (some ⟨w.heap.size,0,none⟩) ys.length k,_,_,_,zef ho (by rw[Kw,Uo];exact Xc),?_,r1,s2.trans r2⟩;refine .one (.vec (c:=w.heap.size) (n:=(#[]++vs++rest).size) (by simp[ext]) hk ⟨telem P t,by simp[World.shape?]⟩ ?_);simp only[wcs,wbW,waY];rw[Xt,Up,Xu,VG,<-war];exact wak _ (by omega)
theorem zpY{o:Oper}{b n:Nat}{x y:Operand}{t t':TypeId}(ho:o.op = .call { callee:=.builtin .append,args:=#[x,y],argTypes:=#[t,t'] })(h1:tok P t=true)(h2:isSliceD (tdesc P t)=true)(h3:tok P (telem P t)=true)(h4:tok P t'=true)
  (h5:isSliceD (tdesc P t')=true) (hz:(tzero P (telem P t)).isSome=true) (Vk:((tzero P (telem P t)).getD []).length=tsize P (telem P t)) (XN:0<tbytes P (telem P t)) {nl:Option Bool} {ys:List (List T)} {cs:List C} (hx:ev σ.s x = .one (.vec b (tsize P (telem P t)) 0 n)) (YL:σ.H b=some cs)
  (hn:cs.length=n*tsize P (telem P t)) (hy:ev σ.s y = .one (.t (.seq nl ys))) (XE:∀ z∈ys,z.length=tsize P (telem P t))
  (hb:(n+ys.length)*tbytes P (telem P t)<=2^47) (Wn:b<PIN):zdj P o σ (.one (.vec b (tsize P (telem P t)) 0 (n+ys.length))) (σ.renew b (cs.map (jC b)++ys.flatten.map .t)):=by
 intro ρ ok a w h;obtain⟨z,hz⟩:=wba.1 hz;rw[hz]at Vk;simp only[waV]at Vk;obtain⟨zv,Uz,Kn⟩:=zc1 hz;have VG:zv.cells.size=tsize P (telem P t):=by
  have:=(zcb (w:=w) (ok:=ok) (ρ:=ρ) Kn).1;rw[<-Vk,this];simp
 have Y3:=Zj h x;have Xx:=Zj h y;rw[hx]at Y3;rw[hy]at Xx;obtain⟨c,cap,n0,hρb,Kw,k2,k3,k4⟩:=Y3.vec_inv;obtain⟨A',c',vs,Uo,Vi,Up,V8⟩:=znx (P:=P) Xx XE;have Xu:=zdu XE;rw[Uo]at Vi;obtain⟨cb,arr,el,e1,e2,e3,e4⟩:=h.heap b cs YL;rw[hρb]at e1;cases e1
 have Xl:n0=arr.size:=by
  obtain⟨el',hs⟩:=k3;simp[World.shape?,e2]at hs;exact hs.2.symm
 subst Xl;by_cases XV:n+ys.length<=cap
 ·
  have Vl:n*tsize P (telem P t)+ys.length*tsize P (telem P t)<=arr.size:=by
   have:(n+ys.length)*tsize P (telem P t)<=cap*tsize P (telem P t):=wak _ XV;rw[war]at this;omega
  have YR:∀ v∈vs.toList,zcB v=true:=fun v hv=>by
   obtain⟨j,hj,rfl⟩:=waK.1 hv;have X1:j<vs.size:=by simpa using hj
   have:=(V8 j (by omega) X1).oneCell;simpa using this
  obtain⟨w',arr',r1,r2,r3,r4,r5,r6,r7⟩:=zh8 (P:=P) (c:=c) (off:=n*tsize P (telem P t)) vs.toList 0 w arr e2 YR (by simp;omega);have hk:zai ok w w':=fun m hm=>r3 m (fun e=>(h.okR m hm).2 b (e▸hρb))
  have hs:∀ m el k,w.shape? m=some (el,k)->w'.shape? m=some (el,k):=fun m el' k Vc=>by
   by_cases hm:m=c
   .subst hm;simp[World.shape?,e2]at Vc;simp[World.shape?,r4,r5,Vc]
   .simpa[World.shape?,r3 m hm]using Vc
  have Xw:=zny (P:=P) (w:=w) (w':=w') (t:=t) (t':=t') (ty:=o.type) (A':=A') (c0:=c) (off:=0) (n:=n) (c:=cap) (n':=ys.length) (c':=c') h1 h2 h3 h4 h5 XV (Vi w rfl) (by rw[waY];exact r1);refine⟨.slice (some ⟨c,0,none⟩) (n+ys.length) cap,w',ρ,ok,zef ho (by rw[Kw,Uo];exact Xw),.one (.vec hρb XV (hs _ _ _ (by simp[World.shape?,e2];rfl) |> fun h=>⟨_,h⟩) k4),⟨⟨fun b' cs' hb'=>?_,fun b' hb'=>?_,h.inj,fun m hm=>⟨by rw[r2];exact(h.okR m hm).1,(h.okR m hm).2⟩⟩,h.size,fun t'=>?_,h.defers,h.small⟩,⟨by omega,fun m hm hb'=>r3 m (fun e=>hb' b (e▸hρb)),hs,fun b' m hb'=>.inl ⟨b',hb'⟩,fun _ h=>h,fun _ h=>.inl h,fun _ _=>.inl rfl,r7⟩⟩
  .simp only[zbk]at hb'
   split at hb'
   .subst b';cases hb'
    refine⟨c,arr',el,hρb,r4,by simp only[Qj,Qm];omega,fun j hj Yz=>?_⟩;have e6:=r6 j;simp only[wap]at e6;by_cases hjn:j<cs.length
    .rw[wbt (by simpa using hjn)]
     rw[Qb (by omega),waW Yz,waW (by omega)]at e6;rw[wa0 e6];simp only[Qq];exact((e4 j hjn (by omega)).mono hk (fun _ h=>h) hs (fun _ _ h=>h)).junked (fun _ _ _ h=>h)
    .have DL:j<cs.length+ys.flatten.length:=by have:=hj;simp only[Qj,Qm]at this;exact this
     have V7:n*tsize P (telem P t)<=j/\j<n*tsize P (telem P t)+vs.toList.length:=⟨by omega,by rw[wcK];omega⟩
     rw[wbA (by simpa using hjn)];rw[Qc V7,waW Yz,waa (by rw[wcK];omega)]at e6;rw[wa0 e6];have hr:=(V8 (j-n*tsize P (telem P t)) (by omega) (by omega)).mono hk (fun _ h=>h);simp only[Qq,Qm,wbO,hn];simp only[waY,wap]at *
     exact .t hr
   .rename_i hne
    simp only[wbq]at hb';obtain⟨cs0,V9,rfl⟩:=hb';obtain⟨c2,arr2,el2,f1,f2,f3,f4⟩:=h.heap b' cs0 V9;have WA:c2≠c:=fun e=>hne (h.inj b' b c2 f1 (e▸hρb))
    exact⟨c2,arr2,el2,f1,by rw[r3 c2 WA];exact f2,by simpa using f3,fun j hj Yz=>by
     simp only[Qq];exact((f4 j (by simpa using hj) Yz).mono hk (fun _ h=>h) hs (fun _ _ h=>h)).junked (fun _ _ _ h=>h)⟩
  .simp only[zbk]at hb'
   split at hb'
   .cases hb'
   .simp only[wct]at hb';exact h.dom b' hb'
  .simp only[zgf]
   exact(h.lift hk (fun _ h=>h) hs (fun _ _ h=>h) t').junked (fun _ _ _ h=>h)
 ·
  have Un:∀ w',w'.heap=w.heap->(Builtin.firstCells (tsize P (telem P t)) n (.slice (some ⟨c,0,none⟩) n cap)).run P w' = .ok ((List.range (n*tsize P (telem P t))).map fun j=>(arr[j]?).getD undef).toArray w':=by
   intro w' UJ;unfold Builtin.firstCells;simp only[];refine zeQ _ fun j hj=>?_
   have:j<arr.size:=by omega
   rw[zg2 UJ];simp[World.cell?,e2,this]
  obtain⟨k,rest,hk,Xt,Xc⟩:=zil (P:=P) (w:=w) (w₀:=w) (ty:=o.type) (A:=some ⟨c,0,none⟩) (A':=A') (n:=n) (c:=cap) (n':=ys.length) (c':=c') h1 h2 h3 h4 h5 (by omega) hb XN Uz Un Vi rfl;generalize UR:((List.range (n*tsize P (telem P t))).map fun j=>(arr[j]?).getD undef).toArray++vs++rest=ARR at Xc;have XX:((List.range (n*tsize P (telem P t))).map fun j=>(arr[j]?).getD undef).toArray.size=n*tsize P (telem P t):=by simp
  have Vm:ARR.size=k*tsize P (telem P t):=by
   rw[<-UR];simp only[wbW,XX];rw[Xt,Up,Xu,VG,<-war,<-war];congr 1;omega
  have YA:∀ m,ok m->m<w.heap.size:=fun m hm=>(h.okR m hm).1
  have hρ:∀ b' m,b'≠b->ρ b'=some m->ext ρ b (some w.heap.size) b'=some m:=fun b' m hne hm=>by simp[ext,hne,hm]
  have VR:=zdB (w:=w) (o:=.cells ARR (telem P t)) YA;have YF:∀ m,m<w.heap.size->(w.heap.push (.cells ARR (telem P t)))[m]? = w.heap[m]?:=fun m hm=>by simp[wb9,wca hm]
  have WB:∀ m el k,w.shape? m=some (el,k)->({ w with heap:=w.heap.push (.cells ARR (telem P t)) }:World).shape? m=some (el,k):=zc3;refine⟨.slice (some ⟨w.heap.size,0,none⟩) (n+ys.length) k,_,ext ρ b (some w.heap.size),ok,zef ho (by rw[Kw,Uo];exact Xc),.one (.vec (c:=w.heap.size) (n:=ARR.size) (by simp[ext]) hk ⟨telem P t,by simp[World.shape?]⟩ (by rw[Vm];omega)),?_,?_⟩
  .have main:SR (ext ρ b (some w.heap.size)) ok (σ.renew b (cs.map (jC b)++ys.flatten.map .t)) a { w with heap:=w.heap.push (.cells ARR (telem P t)) }:=by
    refine⟨⟨fun b' cs' hb'=>?_,fun b' hb'=>?_,fun b1 b2 m h1 h2=>?_,fun m hm=>⟨by have:=YA m hm;simp;omega,fun b' hb'=>?_⟩⟩,h.size,fun t'=>?_,h.defers,h.small⟩
    .simp only[zbk]at hb'
     split at hb'
     .subst b';cases hb'
      refine⟨w.heap.size,ARR,telem P t,by simp[ext],by simp,by rw[Vm];simp only[Qj,Qm,hn,Xu,<-war];exact wak _ hk,fun j hj Yz=>?_⟩;subst UR;by_cases hjn:j<cs.length
      .rw[wbt (by simpa using hjn)]
       rw[wbF (by simp;omega),wbF (by simp;omega)];simp only[Qq,wcf,wc1];have Yw:j<arr.size:=by omega
       have:=e4 j hjn Yw;rw[show(arr[j]?).getD undef=arr[j] by simp[Yw]];exact(this.mono (ρ':=ρ) VR (fun _ h=>h) WB (fun _ _ h=>h)).junked hρ
      .have DL:j<cs.length+ys.flatten.length:=by have:=hj;simp only[Qj,Qm]at this;exact this
       rw[wbA (by simpa using hjn)];rw[wbF (by rw[wbW,XX];omega),wdC (by rw[XX];omega)];have hr:=(V8 (j-n*tsize P (telem P t)) (by omega) (by omega)).mono VR (fun _ h=>h);simp only[Qq,Qm,XX,hn];exact .t hr
     .rename_i hne
      simp only[wbq]at hb';obtain⟨cs0,V9,rfl⟩:=hb';obtain⟨c2,arr2,el2,f1,f2,f3,f4⟩:=h.heap b' cs0 V9;refine⟨c2,arr2,el2,hρ _ _ hne f1,by rw[YF c2 (Yb h.toHR f1)];exact f2,by simpa using f3,fun j hj Yz=>?_⟩;simp only[Qq];exact((f4 j (by simpa using hj) Yz).mono (ρ':=ρ) VR (fun _ h=>h) WB (fun _ _ h=>h)).junked hρ
    .simp only[zbk]at hb'
     split at hb'
     .cases hb'
     .rename_i hne;simp only[wct]at hb';simp[ext,hne,h.dom b' hb']
    .simp only[ext]at h1 h2
     split at h1<;>split at h2
     .subst b1;subst b2;rfl
     .cases h1;have:=Yb h.toHR h2;omega
     .cases h2;have:=Yb h.toHR h1;omega
     .exact h.inj b1 b2 m h1 h2
    .simp only[ext]at hb'
     split at hb'
     .cases hb';have:=YA _ hm;omega
     .exact(h.okR m hm).2 b' hb'
    .simp only[zgf]
     exact(h.lift (ρ':=ρ) VR (fun _ h=>h) WB (fun _ _ h=>h) t').junked hρ
   exact main.drawn.1
  .refine⟨by simp,fun m hm _=>YF m hm,WB,fun b' m hb'=>?_,fun _ h=>h,fun _ h=>.inl h,fun b' hb'=>.inl (by unfold ext;rw[Qb (by omega)]),⟨rfl,rfl⟩⟩
   simp only[ext]at hb';split at hb'
   .cases hb';exact .inr (Qd _)
   .exact .inl ⟨b',hb'⟩
end
theorem zhi{P:Program}{m:Nat}{o:Oper}{σ:St}{K:AV->St->Prop}{r:AV}{σ':St}(h:zdj P o σ r σ')(hn:σ'.n=σ.n)(hK:K r σ'):OpA P m o σ K:=⟨r,σ',hn,h,hK⟩
theorem zhx{P:Program}{m:Nat}{o:Oper}{σ:St}{K:AV->St->Prop}{r:AV}{σ':St}(hm:2<=m)(h:zdj P o σ r σ')(hn:σ'.n=σ.n)(hK:K r σ'):OpA P m o σ K:=⟨r,σ',hn,h,hK⟩
@[go_sem] theorem zB0{P:Program}{m:Nat}{σ:St}{K:AV->St->Prop}{d:Option Nat}{ty:TypeId}{pos:String}{af:Array Edge}{g:Option (Nat×Bool)}{as:Array Operand}{ats:Array TypeId} :
  QW P m ⟨d,.call { callee:=.builtin .append,args:=as,argTypes:=ats },ty,pos,af,g⟩ σ K=OpA P m ⟨d,.call { callee:=.builtin .append,args:=as,argTypes:=ats },ty,pos,af,g⟩ σ K:=rfl
def fC(b sz len:Nat)(x:T):C->C
 |.ptr b' o=>if b'=b then .t .junk else .ptr b' o
 |.vec b' s o n=>if b'=b then(if s=sz/\o=0/\n=len then .t x else .t .junk)else .vec b' s o n
 |.fn f caps=>if caps.any (fun p=>p.1==b)then .t .junk else .fn f caps
 |.t y=>.t y
def fA(b sz len:Nat)(x:T):AV->AV
 |.one c=>.one (fC b sz len x c)
 |.agg cs=>.agg (cs.map (fC b sz len x))
 |.iptr cs=>.iptr cs
 |.tup []=>.tup []
 |_=>.junk
def St.frz(σ:St)(b sz len:Nat)(x:T):St:=⟨σ.n,fun t=>fA b sz len x (σ.s t),fun n=>if n=b then none else(σ.H n).map (·.map (fC b sz len x))⟩
section
variable {σ:St} {b sz len:Nat} {x:T}
@[go_sem] theorem frz_n:(σ.frz b sz len x).n=σ.n:=rfl
@[go_sem] theorem frz_s{t:Nat}:(σ.frz b sz len x).s t=fA b sz len x (σ.s t):=rfl
@[go_sem] theorem zmh{n:Nat}:(σ.frz b sz len x).H n=if n=b then none else(σ.H n).map (·.map (fC b sz len x)):=rfl
@[go_sem] theorem fA_one{c:C}:fA b sz len x (.one c) = .one (fC b sz len x c):=rfl
@[go_sem] theorem fA_agg{cs:List C}:fA b sz len x (.agg cs) = .agg (cs.map (fC b sz len x)):=rfl
@[go_sem] theorem zDW{cs:List T}:fA b sz len x (.iptr cs) = .iptr cs:=rfl
@[go_sem] theorem zDX:fA b sz len x .junk = .junk:=rfl
@[go_sem] theorem zC6:fA b sz len x undefA=undefA:=rfl
@[go_sem] theorem zDY{k:IntKind}{n:Int}:fA b sz len x (litI k n)=litI k n:=rfl
@[go_sem] theorem zDZ{y:Bool}:fA b sz len x (QO y)=QO y:=rfl
@[go_sem] theorem fC_t{y:T}:fC b sz len x (.t y) = .t y:=rfl
@[go_sem] theorem fC_ptr{b' o:Nat}:fC b sz len x (.ptr b' o)=if b'=b then .t .junk else .ptr b' o:=rfl
@[go_sem] theorem fC_vec{b' s o n:Nat}:fC b sz len x (.vec b' s o n)=if b'=b then(if s=sz/\o=0/\n=len then .t x else .t .junk)else .vec b' s o n:=rfl
inductive TreeOf(cs:List C)(sz len:Nat):T->Prop where
 |seq {nl:Option Bool} {xs:List (List T)}:nl≠some true->cs=xs.flatten.map .t->xs.length=len->(∀ y∈xs,y.length=sz)->TreeOf cs sz len (.seq nl xs)
theorem zvq{ρ:Nat->Option Nat}{ok:Nat->Prop}{w:World}{H:QD}(h:HR ρ ok H w){cs:List C}(hb:H b=some cs)(hx:TreeOf cs sz len x):∃ c,ρ b=some c /\
  (∀ {y:C} {v:Value},RC w ok ρ y v->RC w (fun n=>ok n\/n=c) (fun b'=>if b'=b then none else ρ b') (fC b sz len x y) v) /\
  (∀ {y:AV} {v:Value},RA w ok ρ y v->RA w (fun n=>ok n\/n=c) (fun b'=>if b'=b then none else ρ b') (fA b sz len x y) v):=by
 obtain⟨c,arr,el,h1,h2,h3,h4⟩:=h.heap b cs hb;have VF:∀ n,ok n->(ok n\/n=c):=fun _ h=>.inl h
 have hk:zai ok w w:=fun _ _=>rfl
 have key:∀ {y:C} {v:Value},RC w ok ρ y v->RC w (fun n=>ok n\/n=c) (fun b'=>if b'=b then none else ρ b') (fC b sz len x y) v:=by
  intro y v hy;have YR:=hy.oneCell;cases hy with
  |t hy=>exact .t (hy.mono hk VF)
  |ptr hy =>
   simp only[fC];split
   .exact .t (.junk YR)
   .rename_i hne;exact .ptr (by rw[Qb hne];exact hy)
  |vec hy g1 g2 g3 =>
   simp only[fC];split
   .rename_i e
    split
    .rename_i e2
     obtain⟨rfl,rfl,rfl⟩:=e2;subst e;rw[h1]at hy;cases hy
     rename_i b sz len cap nn;cases hx with
     |seq k1 k2 k3 k4 =>
      rename_i nl xs;refine .t (.seq (sz:=sz) (blk:=c) (off:=0) (u:=fun i j=>(arr[i*sz+j]?).getD undef) k3.symm g1 (fun e=>by cases e) (fun e=>Qo e k1) (fun _=>by simp) k4 (fun _=>⟨rfl,.inr rfl⟩) (fun i hi j hj=>?_) (fun i hi j hj=>?_))
      .have Xu:=zdu k4
       have Yz:=k4 _ (Qh hi);have:(i+1)*sz<=xs.length*sz:=wak _ hi;rw[waX]at this;have YW:cs.length=xs.length*sz:=by rw[k2,Qm,Xu]
       have Yw:i*sz+j<arr.size:=by omega
       simp[World.cell?,h2,Yw]
      .have Xu:=zdu k4
       have Yz:=k4 _ (Qh hi);have YZ:(i+1)*sz<=xs.length*sz:=wak _ hi;rw[waX]at YZ;have YW:cs.length=xs.length*sz:=by rw[k2,Qm,Xu]
       have Yw:i*sz+j<arr.size:=by omega
       have EI:=h4 (i*sz+j) (by omega) Yw;have UX:0<sz:=by omega
       obtain⟨q1,q2,q3⟩:=zgS UX k4 (i*sz+j) (by rw[Xu];omega);have ed:(i*sz+j)/sz=i:=by rw[Qt,wda UX,wbm (by omega),wap]
       have em:(i*sz+j)%sz=j:=by rw[Qt,wdb,wbr (by omega)]
       simp only[ed,em]at q3;have ec:cs[i*sz+j]'(by omega) = .t (xs[i][j]):=by
        simp only[k2,Qq,q3]
       rw[ec]at EI;cases EI with
       |t EI =>
        rw[show(arr[i*sz+j]?).getD undef=arr[i*sz+j] by simp[Yw]];exact EI.mono hk VF
    .exact .t (.junk YR)
   .rename_i hne;exact .vec (by rw[Qb hne];exact hy) g1 g2 g3
  |fn hy g1 =>
   simp only[fC];split
   .exact .t (.junk YR)
   .rename_i hn
    refine .fn hy fun i hi Y6=>?_
    obtain⟨c',k2,k3⟩:=g1 i hi Y6;refine⟨c',?_,k3⟩;have:¬(_:Nat×Nat).1=b:=fun e=>hn (wbz.2 ⟨_,Qh hi,by simpa using e⟩)
    rw[Qb this];exact k2
 refine⟨c,h1,key,?_⟩;intro y v hy;cases hy with
 |one hy=>exact .one (key hy)
 |agg g1 g2=>exact .agg (by simpa using g1) fun j hj Yz=>by simp only[Qq];exact key (g2 j (by simpa using hj) Yz)
 |iptr g1 g2 g3=>exact .iptr (.inl g1) g2 fun j hj=>(g3 j hj).mono hk VF
 |@tup xs vs g1 g2 =>
  cases xs with
  |nil=>exact .tup g1 fun j hj=>by simp at hj
  |cons _ _=>exact .junk
 |junk=>exact .junk
theorem znw{ρ:Nat->Option Nat}{ok:Nat->Prop}{a:Act}{w:World}(h:SR ρ ok σ a w){cs:List C}(hb:σ.H b=some cs)(hx:TreeOf cs sz len x):∃ ρ' ok',SR ρ' ok' (σ.frz b sz len x) a w/\Goes ρ ok w ρ' ok' w /\
  ∀ {y:AV} {v:Value},RA w ok ρ y v->RA w ok' ρ' (fA b sz len x y) v:=by
 obtain⟨c,h1,hC,hA⟩:=zvq h.toHR hb hx;refine⟨_,_,⟨⟨fun b' cs' hb'=>?_,fun b' hb'=>?_,fun b1 b2 m h1 h2=>?_,fun m hm=>?_⟩,h.size,fun t=>hA (h.slots t),h.defers,h.small⟩,⟨Qd _,fun _ _ _=>rfl,fun _ _ _ h=>h,fun b' m hb'=>?_,fun _ h=>.inl h,fun m hm=>?_,fun b' _=>by show(if _ then _ else _)=_\/(if _ then _ else _)=_;split<;>simp,⟨rfl,rfl⟩⟩,hA⟩
 .simp only[zmh]at hb'
  split at hb'
  .cases hb'
  .rename_i hne
   simp only[wbq]at hb';obtain⟨cs0,XN,rfl⟩:=hb';obtain⟨c2,arr,el,f1,f2,f3,f4⟩:=h.heap b' cs0 XN;exact⟨c2,arr,el,by rw[Qb hne];exact f1,f2,by simpa using f3,fun j hj Yz=>by simp only[Qq];exact hC (f4 j (by simpa using hj) Yz)⟩
 .simp only[zmh]at hb'
  split at hb'
  .rename_i e;simp[e]
  .rename_i hne;simp only[wct]at hb';simp[hne,h.dom b' hb']
 .by_cases e1:b1=b
  .simp[e1]at h1
  .by_cases e2:b2=b
   .simp[e2]at h2
   .simp only[e1,e2,if_false]at h1 h2;exact h.inj b1 b2 m h1 h2
 .rcases hm with hm|rfl
  .refine⟨(h.okR m hm).1,fun b' hb'=>?_⟩
   split at hb'
   .cases hb'
   .exact(h.okR m hm).2 b' hb'
  .refine⟨Yb h.toHR h1,fun b' hb'=>?_⟩
   split at hb'
   .cases hb'
   .rename_i hne;exact hne (h.inj b' b _ hb' h1)
 .split at hb'
  .cases hb'
  .exact .inl ⟨b',hb'⟩
 .rcases hm with hm|rfl
  .exact .inl hm
  .exact .inr (.inl ⟨b,h1⟩)
theorem zbu{cs:List C}(hb:σ.H b=some cs)(hx:TreeOf cs sz len x):GStep σ (σ.frz b sz len x):=fun ρ ok a w h=>by
 obtain⟨ρ',ok',h1,h2,_⟩:=znw h hb hx;exact⟨ρ',ok',h1,h2⟩
theorem zbM{P:Program}{m:Nat}{f:FuncId}{as:List AV}{tvs:List TV}{r:TV}{K:AV->St->Prop}(b sz len:Nat){x:T}{cs:List C}(hm:m=2)(hp:Q9 P f tvs r)(hb:σ.H b=some cs)(hx:TreeOf cs sz len x)(YY:as.map (fA b sz len x)=tvs.map emb)
  (hK:K (emb r) (σ.frz b sz len x)):ZK P m f as σ K:=by
 refine .inr (.inr (.inl ⟨hm,emb r,σ.frz b sz len x,rfl,⟨hp.1,fun ρ ok a w vs h hv=>?_⟩,hK⟩));obtain⟨ρ',ok',s1,g1,hA⟩:=znw h hb hx;have Po:zaH w ok' noρ (tvs.map emb) vs:=by
  rw[<-YY];refine⟨by rw[Qm];exact hv.1,fun i hi Y6=>?_⟩;have XS:i<as.length:=by simpa using hi
  have e:(as.map (fA b sz len x))[i]=emb (tvs[i]'(by have:=congrArg List.length YY;simp at this;omega)):=by
   simp only[YY,Qq]
  have h1:RA w ok' ρ' ((as.map (fA b sz len x))[i]'(by simpa using XS)) vs[i]:=by simp only[Qq];exact hA (hv.2 i XS Y6)
  rw[e];exact zew h1 _ e
 refine(hp.2 ok' w vs (fun n hn=>(s1.okR n hn).1) Po).mono ?_;rintro e w' ⟨v,ok'',rfl,hr,hg,Yw⟩;obtain⟨t1,t2⟩:=s1.pure hg Yw;exact⟨v,ρ',ok'',rfl,zew hr _ rfl,t1,g1.trans t2⟩
end
def Q5{α:Type}(f:α->List T)(xs:List α):List C:=(xs.map f).flatten.map .t
section
variable {α:Type} {f:α->List T} {xs ys:List α} {sz:Nat}
theorem zif:Q5 f ([]:List α)=[]:=rfl
theorem zcq{x:α}:Q5 f (x::xs)=(f x).map .t++Q5 f xs:=by simp[Q5]
theorem zgM:Q5 f (xs++ys)=Q5 f xs++Q5 f ys:=by simp[Q5]
theorem zcC(h:∀ x,(f x).length=sz):(Q5 f xs).length=xs.length*sz:=by
 induction xs with
 |nil=>simp[zif]
 |cons x l ih=>rw[zcq,Qj,ih,Qm,h,Qe,waX];omega
theorem zko{b:Nat}:(Q5 f xs).map (jC b)=Q5 f xs:=by
 unfold Q5;rw[wac];rfl
theorem ztl{b s n:Nat}{x:T}:(Q5 f xs).map (fC b s n x)=Q5 f xs:=by
 unfold Q5;rw[wac];rfl
theorem QH{D:List Nat}:(Q5 f xs).all (Z9 D)=true:=by
 rw[wai];intro c hc;unfold Q5 at hc;obtain⟨x,_,rfl⟩:=Qp.1 hc;rfl
theorem zj6(h:∀ x,(f x).length=sz):∀ {xs:List α} {i:Nat},(Q5 f xs).drop (i*sz)=Q5 f (xs.drop i)
 |[],i=>by simp[zif]
 |x::l,0=>by simp
 |x::l,i+1=>by
  rw[zcq,waX,List.drop_append,List.drop_of_length_le (by rw[Qm,h];omega),wbw,Qm,h,Nat.add_sub_cancel,zj6 h];rfl
theorem zmK(h:∀ x,(f x).length=sz):∀ {xs:List α} {i:Nat},(Q5 f xs).take (i*sz)=Q5 f (xs.take i)
 |[],i=>by simp[zif]
 |x::l,0=>by simp[zif]
 |x::l,i+1=>by
  rw[zcq,waX,wcX,List.take_add,List.take_left' (by simp[h]),List.drop_left' (by simp[h]),zmK h,wcU,zcq]
theorem zio(h:∀ x,(f x).length=sz){i:Nat}(hi:i<xs.length):(Q5 f xs).drop (i*sz)=(f xs[i]).map .t++Q5 f (xs.drop (i+1)):=by
 rw[zj6 h,waw hi,zcq]
theorem zgU(h:∀ x,(f x).length=sz){i:Nat}(hi:i<xs.length){y:α}:Yh (Q5 f xs) (i*sz) ((f y).map .t)=Q5 f (xs.set i y):=by
 unfold Yh;rw[zmK h];have e:(Q5 f xs).drop (i*sz+((f y).map C.t).length)=Q5 f (xs.drop (i+1)):=by
  rw[Qm,h,show i*sz+sz=(i+1)*sz by rw[waX],zj6 h]
 rw[e,wel,Qc hi,zgM,zcq,waM]
theorem zmL{x:α}{n:Nat}:Zg n ((f x).map .t)=Q5 f (List.replicate n x):=by
 induction n with
 |zero=>rfl
 |succ n ih=>rw[zky,ih,wbp,zcq]
theorem Yl(h:∀ x,(f x).length=sz):TreeOf (Q5 f xs) sz xs.length (eL f xs) :=
 .seq (by simp) rfl (by simp) (fun y hy=>by obtain⟨x,_,rfl⟩:=Qp.1 hy;exact h x)
theorem zjr{H:QD}{b n:Nat}(h:∀ x,(f x).length=sz)(hb:H b=some (Q5 f xs))(hn:n=xs.length):FzC H (.vec b sz 0 n) (eL f xs):=by
 subst hn;refine .vec (by simp) hb (by simp) (fun y hy=>by obtain⟨x,_,rfl⟩:=Qp.1 hy;exact h x) (by rw[zcC h];omega) fun i hi j hj Yw=>?_
 have hall:∀ y∈xs.map f,y.length=sz:=fun y hy=>by obtain⟨x,_,rfl⟩:=Qp.1 hy;exact h x
 have Yz:=hall _ (Qh hi);have UX:0<sz:=by omega
 have Xu:=zdu hall;have YZ:(i+1)*sz<=(xs.map f).length*sz:=wak _ hi;rw[waX]at YZ;obtain⟨q1,q2,q3⟩:=zgS UX hall (i*sz+j) (by rw[Xu];omega);have ed:(i*sz+j)/sz=i:=by rw[Qt,wda UX,wbm (by omega),wap]
 have em:(i*sz+j)%sz=j:=by rw[Qt,wdb,wbr (by omega)]
 simp only[ed,em]at q3;simp only[waY];have ec:(Q5 f xs)[i*sz+j]'(by simpa using Yw) = .t ((xs.map f)[i][j]):=by
  simp only[Q5,Qq,q3]
 rw[ec];exact .t
theorem zf7{H:QD}{b n:Nat}(h:∀ x,(f x).length=sz)(hb:H b=some (Q5 f xs))(hn:n=xs.length):FzA H (.one (.vec b sz 0 n)) (.one (eL f xs)):=.one (zjr h hb hn)
theorem zcz{H:QD}{nl:Option Bool}:FzA H (.one (.t (.seq nl []))) (.one (eL f [])):=.one .weak
end
def QV(P:Program)(t t':TypeId)(sz bytes:Nat):Prop:=tok P t=true/\isSliceD (tdesc P t)=true/\tok P (telem P t)=true/\tok P t'=true/\isSliceD (tdesc P t')=true/\(tzero P (telem P t)).isSome=true /\
 ((tzero P (telem P t)).getD []).length=tsize P (telem P t)/\tsize P (telem P t)=sz/\tbytes P (telem P t)=bytes/\0<bytes
section
variable {P:Program} {m:Nat} {σ:St} {K:AV->St->Prop} {d:Nat} {ty:TypeId} {pos:String} {af:Array Edge} {g:Option (Nat×Bool)} {x y:Operand} {t t':TypeId} {α:Type} {f:α->List T} {sz bytes:Nat}
theorem zcr(hm:2<=m)(Wr:QV P t t' sz bytes)(hf:∀ x,(f x).length=sz){nl:Option Bool}{yv:List (List T)}(ys:List α)(hx:ev σ.s x = .one (.t (.seq (some true) [])))(hy:ev σ.s y = .one (.t (.seq nl yv)))(Wl:yv=ys.map f)
  (hne:ys≠[]) (hb:ys.length*bytes<=2^47) (hd:σ.H d=none) (XD:d<PIN) (hK:K (.one (.vec d sz 0 ys.length)) (σ.withH (upd σ.H d (some (Q5 f ys))))) :
  OpA P m ⟨some d,.call { callee:=.builtin .append,args:=#[x,y],argTypes:=#[t,t'] },ty,pos,af,g⟩ σ K:=by
 obtain⟨h1,h2,h3,h4,h5,h6,h7,rfl,rfl,We⟩:=Wr;subst Wl;have:=zpX (P:=P) (σ:=σ) (d:=d) (o:=⟨some d,.call { callee:=.builtin .append,args:=#[x,y],argTypes:=#[t,t'] },ty,pos,af,g⟩) rfl h1 h2 h3 h4 h5 h6 h7 We hx hy (fun z hz=>by obtain⟨w,_,rfl⟩:=Qp.1 hz;exact hf w) (by simpa using hne) (by simpa using hb) hd XD;rw[Qm]at this;exact zhx hm this rfl hK
theorem zay(hm:2<=m)(Wr:QV P t t' sz bytes)(hf:∀ x,(f x).length=sz){nl:Option Bool}{yv:List (List T)}(xs ys:List α){b n:Nat}(hx:ev σ.s x = .one (.vec b sz 0 n))(hn:n=xs.length)(YL:σ.H b=some (Q5 f xs))(hy:ev σ.s y = .one (.t (.seq nl yv)))(Wl:yv=ys.map f)
  (hb:(xs.length+ys.length)*bytes<=2^47) (Wn:b<PIN) (hK:K (.one (.vec b sz 0 (xs++ys).length)) (σ.renew b (Q5 f (xs++ys)))) :
  OpA P m ⟨some d,.call { callee:=.builtin .append,args:=#[x,y],argTypes:=#[t,t'] },ty,pos,af,g⟩ σ K:=by
 obtain⟨h1,h2,h3,h4,h5,h6,h7,rfl,rfl,We⟩:=Wr;subst Wl;subst hn;have:=zpY (P:=P) (σ:=σ) (o:=⟨some d,.call { callee:=.builtin .append,args:=#[x,y],argTypes:=#[t,t'] },ty,pos,af,g⟩) rfl h1 h2 h3 h4 h5 h6 h7 We hx YL (zcC hf) hy (fun z hz=>by obtain⟨w,_,rfl⟩:=Qp.1 hz;exact hf w) (by simpa using hb) Wn;rw[zko,Qm]at this;have e:Q5 f xs++(ys.map f).flatten.map C.t=Q5 f (xs++ys):=by rw[zgM];rfl
 rw[e]at this;rw[Qj]at hK;exact zhx hm this rfl hK
end
theorem zrl{m n:Nat}:Int.tmod (m:Int) (n:Int)=((m%n:Nat):Int):=rfl
theorem zrm{m n:Nat}:Int.tdiv (m:Int) (n:Int)=((m/n:Nat):Int):=rfl
theorem Zu{m:Nat}:Int.tmod (m:Int) 1000000000=((m%1000000000:Nat):Int):=rfl
theorem QS{m:Nat}:Int.tdiv (m:Int) 1000000000=((m/1000000000:Nat):Int):=rfl
def scA:AV->Bool
 |.one (.t (.lit _))=>true
 |.tup []=>true
 |.tup [.one (.t (.lit _)),.one (.t (.lit _))]=>true
 |_=>false
theorem RA.scalar{w w':World}{ok ok':Nat->Prop}{ρ ρ':Nat->Option Nat}{x:AV}{v:Value}(h:RA w ok ρ x v)(hx:scA x=true):RA w' ok' ρ' x v:=by
 have lit:∀ {l:Value} {v:Value},RA w ok ρ (.one (.t (.lit l))) v->RA w' ok' ρ' (.one (.t (.lit l))) v:=by
  intro l v h;cases h with|one h=>cases h with|t h=>cases h with|lit h=>exact .one (.t (.lit h))
 unfold scA at hx;split at hx
 .exact lit h
 .cases h with|tup h1 h2=>exact .tup h1 fun j hj=>by simp at hj
 .cases h with
  |tup h1 h2 =>
   refine .tup h1 fun j hj Yz=>?_
   have:=h2 j hj Yz
   match j,hj with
   |0,_=>exact lit this
   |1,_=>exact lit this
 .cases hx
def Yq(b:Nat)(cs:List C):QD:=fun n=>if n=b then some cs else none
@[go_sem] theorem zB5{b n:Nat}{cs:List C}:Yq b cs n=if n=b then some cs else none:=rfl
def zd4:C->Bool
 |.t _=>true
 |_=>false
def zhW(P:Program)(rs:List ResultVar)(r:AV)(cs:List C)(e:Exit)(σ:St):Prop :=
 (e = .normal\/e = .ret)/\(∀ x∈rs,zal P σ x)/\zb7 P rs σ=r/\σ.H PIN=some cs
theorem RC.tree{ρ ρ':Nat->Option Nat}{w:World}{ok:Nat->Prop}{x:C}{v:Value}(hx:zd4 x=true)(h:RC w ok ρ x v):RC w ok ρ' x v:=by
 cases h with
 |t h=>exact .t h
 |_=>simp[zd4]at hx
section
variable {P:Program}
def zjS(b:Nat)(r r':AV):Prop:=∀ (w:World) (ok:Nat->Prop) (ρ ρ2:Nat->Option Nat) (v:Value),ρ2 PIN=ρ b->RA w ok ρ2 r v->RA w ok ρ r' v
theorem zeo{b:Nat}{r:AV}(h:scA r=true):zjS b r r:=fun _ _ _ _ _ _ hr=>hr.scalar h
theorem zkD{b s o n:Nat}:zjS b (.one (.vec PIN s o n)) (.one (.vec b s o n)):=fun _ _ _ _ _ e hr=>by
 cases hr with
 |one hr=>cases hr with
  |vec h1 h2 h3 h4=>exact .one (.vec (by rw[<-e];exact h1) h2 h3 h4)
theorem zh9(hm:P.follows .mixedOrders=true){f:FuncId}{fn:Func}{c:Code}{n:Nat}{rs:List ResultVar}{args:List AV}{r:AV}{cs cs':List C}(Xb:∀ (as:Array Value) w,(callFunc f as).run P w = .ok (.enter f as) w)(hf:P.funcs[f]? = some fn)
  (hb:fn.body=some c) (hn:fn.ntmps=n) (UK:fn.results=rs.toArray) (hl:args.length<=n) (Vt:n<=PIN) (hr:zjS PIN r r) (VA:cs'.all zd4=true) (h:wpA P c (zhW P rs r cs') (zbb n args (Yq PIN cs))) :
  Zf P f args (Yq PIN cs) r (Yq PIN cs'):=by
 subst hn;have e:fn.results.toList=rs:=by rw[UK]
 subst e;refine⟨Xb,fun ρ ok w vs hH hv=>calls_of_wp hf hb (Code.wp_mono ?_ (zdD hm c _ _ ρ ok _ w (zdP hH hv (by rw[hv.1];exact hl) Vt) h))⟩;rintro e a w' ⟨σ,ρ',ok',⟨he,YX,Ve,Y5⟩,s,g⟩;obtain⟨v,r1,r2⟩:=zdv s YX;rw[Ve]at r2;obtain⟨c0,arr,el,k1,k2,k3,k4⟩:=s.heap PIN cs' Y5;obtain⟨c1,arr1,el1,j1,_⟩:=hH.heap PIN cs (by simp[Yq]);have Vh:c0=c1:=by
  rcases g.pin PIN (Qd _)with h1|h1
  .rw[h1,j1]at k1;exact(wa0 k1).symm
  .rw[h1]at k1;cases k1
 subst Vh;have hρ0:∀ b,b≠PIN->ρ b=none:=fun b hb=>hH.dom b (by simp[Yq,hb])
 have main:∃ v' ρ'' ok'',Ending.returned v = .returned v'/\RA w' ok'' ρ'' r v'/\HR ρ'' ok'' (Yq PIN cs') w'/\Goes ρ ok w ρ'' ok'' w'/\∀ b c,ρ b=some c->ρ'' b=some c:=by
  refine⟨v,ρ,ok',rfl,hr _ _ _ _ _ (by rw[k1,j1]) r2,⟨fun b cs2 hb=>?_,fun b hb=>?_,hH.inj,fun m hm=>⟨(s.okR m hm).1,fun b hb=>?_⟩⟩,⟨g.size,g.same,g.shape,fun b m hb=>.inl ⟨b,hb⟩,g.up,g.down,fun _ _=>.inl rfl,g.env⟩,fun _ _ h=>h⟩
  .simp only[Yq]at hb
   split at hb
   .subst b;cases hb
    refine⟨c0,arr,el,j1,k2,k3,fun j hj Yz=>?_⟩;exact(k4 j hj Yz).tree ((wai.1 VA) _ (Qh hj))
   .cases hb
  .simp only[Yq]at hb
   split at hb
   .cases hb
   .exact hρ0 b ‹_›
  .by_cases e:b=PIN
   .subst e
    rw[j1]at hb;cases hb
    exact(s.okR _ hm).2 PIN k1
   .rw[hρ0 b e]at hb;cases hb
 have XU:a.defers=[]/\∃ v,(results fn a.tmps).run P w' = .ok v w'/\∃ v' ρ'' ok'',Ending.returned v = .returned v'/\RA w' ok'' ρ'' r v'/\HR ρ'' ok'' (Yq PIN cs') w'/\Goes ρ ok w ρ'' ok'' w'/\∀ b c,ρ b=some c->ρ'' b=some c :=
  ⟨s.defers,v,r1,main⟩
 rcases he with rfl|rfl<;>exact XU
def zed(b:Nat):C->C
 |.vec b' s o n=>if b'=b then .vec PIN s o n else .t .junk
 |.ptr b' o=>if b'=b then .ptr PIN o else .t .junk
 |.t x=>.t x
 |.fn _ _=>.t .junk
def zh6(b:Nat):AV->AV
 |.one c=>.one (zed b c)
 |.agg cs=>.agg (cs.map (zed b))
 |.iptr cs=>.iptr cs
 |_=>.junk
@[go_sem] theorem zDr{b:Nat}{c:C}:zh6 b (.one c) = .one (zed b c):=rfl
@[go_sem] theorem zB6{b:Nat}{k:IntKind}{n:Int}:zh6 b (litI k n)=litI k n:=rfl
@[go_sem] theorem zB7{b:Nat}{x:Bool}:zh6 b (QO x)=QO x:=rfl
@[go_sem] theorem renC_t{b:Nat}{x:T}:zed b (.t x) = .t x:=rfl
@[go_sem] theorem zDs{b b' s o n:Nat}:zed b (.vec b' s o n)=if b'=b then .vec PIN s o n else .t .junk:=rfl
@[go_sem] theorem zDt{b b' o:Nat}:zed b (.ptr b' o)=if b'=b then .ptr PIN o else .t .junk:=rfl
theorem zeW{m:Nat}{f:FuncId}{as args:List AV}{σ:St}{K:AV->St->Prop}(b:Nat){cs cs':List C}{r r':AV}(hm:m=1\/m=2)(h:Zf P f args (Yq PIN cs) r (Yq PIN cs'))(hb:σ.H b=some cs)(YY:as.map (zh6 b)=args)(hr:zjS b r r')
  (YL:cs.all zd4=true) (VA:cs'.all zd4=true) (hK:K r' (σ.withH (upd σ.H b (some cs')))):ZK P m f as σ K:=by
 refine .inr (.inl ⟨hm,r',_,⟨h.1,fun ρ ok w vs hH hv=>?_⟩,hK⟩);obtain⟨c,arr,el,h1,h2,h3,h4⟩:=hH.heap b cs hb
 let ρ1:Nat->Option Nat:=fun x=>if x=PIN then ρ b else none
 have hρ1:∀ x n,ρ1 x=some n->x=PIN/\n=c:=fun x n hx=>by
  simp only[ρ1]at hx;split at hx
  .rw[h1]at hx;cases hx;exact⟨‹_›,rfl⟩
  .cases hx
 have X5:HR ρ1 ok (Yq PIN cs) w:=by
  refine⟨fun x cs2 hx=>?_,fun x hx=>?_,fun x y n hx hy=>by rw[(hρ1 x n hx).1,(hρ1 y n hy).1],fun n hn=>⟨(hH.okR n hn).1,fun x hx=>?_⟩⟩
  .simp only[Yq]at hx
   split at hx
   .subst x;cases hx
    exact⟨c,arr,el,by simp[ρ1,h1],h2,h3,fun j hj Yz=>RC.tree ((wai.1 YL) _ (Qh hj)) (h4 j hj Yz)⟩
   .cases hx
  .simp only[Yq]at hx
   split at hx
   .cases hx
   .simp[ρ1,‹¬x=PIN›]
  .obtain⟨_,rfl⟩:=hρ1 x n hx
   exact(hH.okR n hn).2 b h1
 have Ea:∀ {x:C} {v:Value},RC w ok ρ x v->RC w ok ρ1 (zed b x) v:=by
  intro x v hx;have YR:=hx.oneCell;cases hx with
  |t hx=>exact .t hx
  |ptr hx =>
   simp only[zed];split
   .subst_vars;exact .ptr (by simp[ρ1,hx])
   .exact .t (.junk YR)
  |vec hx g1 g2 g3 =>
   simp only[zed];split
   .subst_vars;exact .vec (by simp[ρ1,hx]) g1 g2 g3
   .exact .t (.junk YR)
  |fn _ _=>exact .t (.junk YR)
 have Eb:∀ {x:AV} {v:Value},RA w ok ρ x v->RA w ok ρ1 (zh6 b x) v:=by
  intro x v hx;cases hx with
  |one hx=>exact .one (Ea hx)
  |agg g1 g2=>exact .agg (by simpa using g1) fun j hj Yz=>by simp only[Qq];exact Ea (g2 j (by simpa using hj) Yz)
  |iptr g1 g2 g3=>exact .iptr g1 g2 g3
  |tup _ _=>exact .junk
  |junk=>exact .junk
 have Vz:zaH w ok ρ1 args vs:=by
  rw[<-YY];refine⟨by rw[Qm];exact hv.1,fun i hi Y6=>?_⟩;simp only[Qq];exact Eb (hv.2 i (by simpa using hi) Y6)
 refine(h.2 ρ1 ok w vs X5 Vz).mono ?_;rintro e w' ⟨v,ρ2,ok2,rfl,Fd,XF,g,hρ2⟩;obtain⟨c',arr',el',f1,f2,f3,f4⟩:=XF.heap PIN cs' (by simp[Yq]);have Ja:c'=c:=by
  have:=hρ2 PIN c (by simp[ρ1,h1]);rw[this]at f1;exact(wa0 f1).symm
 subst Ja;have Ur:∀ n,ok2 n->∀ x,ρ x≠some n:=fun n hn x hx=>by
  rcases g.down n hn with k|⟨b',k⟩|k
  .exact(hH.okR n k).2 x hx
  .obtain⟨_,rfl⟩:=hρ1 b' n k
   exact(XF.okR n hn).2 PIN f1
  .have:n<w.heap.size:=by
    cases DQ:σ.H x with
    |none=>rw[hH.dom x DQ]at hx;cases hx
    |some csx =>
     obtain⟨cx,ax,ex,q1,q2,_⟩:=hH.heap x csx DQ;rw[hx]at q1;cases q1
     rcases was n w.heap.size with h3|h3
     .exact h3
     .simp[wcr h3]at q2
   omega
 have hk:zai ok w w':=fun n hn=>g.same n (hH.okR n hn).1 fun x hx=>by
  obtain⟨_,rfl⟩:=hρ1 x n hx;exact(hH.okR n hn).2 b h1
 refine⟨v,ρ,ok2,rfl,hr _ _ _ _ _ (by rw[f1,h1]) Fd,⟨fun x cs2 hx=>?_,fun x hx=>?_,hH.inj,fun n hn=>⟨(XF.okR n hn).1,Ur n hn⟩⟩,⟨g.size,fun n hn hb'=>g.same n hn fun x hx=>?_,g.shape,fun x n hx=>.inl ⟨x,hx⟩,g.up,fun n hn=>?_,fun _ _=>.inl rfl,g.env⟩,fun _ _ h=>h⟩
 .simp only[upd]at hx
  split at hx
  .subst x;cases hx
   exact⟨c',arr',el',h1,f2,f3,fun j hj Yz=>RC.tree ((wai.1 VA) _ (Qh hj)) (f4 j hj Yz)⟩
  .rename_i hne
   obtain⟨cx,ax,ex,q1,q2,q3,q4⟩:=hH.heap x cs2 hx;have R0:cx≠c':=fun e=>hne (hH.inj x b cx q1 (e▸h1))
   have Yw:cx<w.heap.size:=by
    rcases was cx w.heap.size with h3|h3
    .exact h3
    .simp[wcr h3]at q2
   refine⟨cx,ax,ex,q1,by rw[g.same cx Yw fun y hy=>R0 (hρ1 y cx hy).2];exact q2,q3,fun j hj Yz=>(q4 j hj Yz).mono hk g.up g.shape (fun _ _ h=>h)⟩
 .simp only[upd]at hx
  split at hx
  .cases hx
  .exact hH.dom x hx
 .obtain⟨_,rfl⟩:=hρ1 x n hx
  exact hb' b h1
 .rcases g.down n hn with k|⟨b',k⟩|k
  .exact .inl k
  .obtain⟨_,rfl⟩:=hρ1 b' n k
   exact .inr (.inl ⟨b,h1⟩)
  .exact .inr (.inr k)
@[go_sem] theorem mret1{σ:St}{rr:ResultVar}{r:AV}{cs:List C}:zhW P [rr] r cs .ret σ=(zal P σ rr/\zaT P σ rr=r/\σ.H PIN=some cs):=by simp[zhW,zb7]
@[go_sem] theorem mret0n{σ:St}{r:AV}{cs:List C}:zhW P [] r cs .normal σ=(undefA=r/\σ.H PIN=some cs):=by simp[zhW,zb7,undefA]
end
end Go.Abs
namespace Go.Abs
variable {P:Program} {m:Nat} {σ:St} {K:AV->St->Prop}
theorem RA.int_inv{w:World}{ok:Nat->Prop}{ρ:Nat->Option Nat}{k:IntKind}{n:Int}{v:Value}(h:RA w ok ρ (litI k n) v):v = .int k n:=by
 unfold litI at h;cases h with
 |one h=>cases h with|t h=>cases h;rfl
theorem zdK{o:Oper}{x y:Operand}{ts:Array TypeId}(ho:o.op = .call { callee:=.builtin .max,args:=#[x,y],argTypes:=ts }){k:IntKind}{a b:Int}(hx:ev σ.s x=litI k a)(hy:ev σ.s y=litI k b)(hm:2<=m)
  (hK:K (litI k (if b>a then b else a)) σ):OpA P m o σ K:=by
 refine⟨_,σ,rfl,fun ρ ok a' w h=>?_,hK⟩;have h1:=Zj h x;rw[hx]at h1;have h2:=Zj h y;rw[hy]at h2;refine⟨.int k (if b>a then b else a),w,ρ,ok,?_,.one (.t (.lit rfl)),h,Goes.refl ρ ok w⟩;simp only[execOp,ho,resolve,Sem.run_bind,Sem.run_pure,Result.andThen,wcO,waq,waH,h1.int_inv,h2.int_inv];rfl
@[go_sem] theorem st_max{d:Option Nat}{ty:TypeId}{pos:String}{af:Array Edge}{g:Option (Nat×Bool)}{as:Array Operand}{ats:Array TypeId} :
  QW P m ⟨d,.call { callee:=.builtin .max,args:=as,argTypes:=ats },ty,pos,af,g⟩ σ K=OpA P m ⟨d,.call { callee:=.builtin .max,args:=as,argTypes:=ats },ty,pos,af,g⟩ σ K:=rfl
@[go_sem] theorem st_min{d:Option Nat}{ty:TypeId}{pos:String}{af:Array Edge}{g:Option (Nat×Bool)}{x y:Operand}{ats:Array TypeId} :
  QW P m ⟨d,.call { callee:=.builtin .min,args:=#[x,y],argTypes:=ats },ty,pos,af,g⟩ σ K=(zhQ [ev σ.s x,ev σ.s y]/\K (zh5 [ev σ.s x,ev σ.s y]) σ):=rfl
@[go_sem] theorem zBL{k k':IntKind}{a b:Int}:zhQ [litI k a,litI k' b]=(k=k'):=rfl
@[go_sem] theorem zCU{k k':IntKind}{a b:Int}:zh5 [litI k a,litI k' b]=litI k (if b<a then b else a):=rfl
end Go.Abs
namespace Go.Abs
variable {P:Program}
inductive FzL(H:QD):List AV->List TV->Prop where
 |nil:FzL H [] []
 |cons {a:AV} {t:TV} {as:List AV} {ts:List TV}:FzA H a t->FzL H as ts->FzL H (a::as) (t::ts)
theorem FzL.len{H:QD}{as:List AV}{ts:List TV}(h:FzL H as ts):as.length=ts.length:=by
 induction h with
 |nil=>rfl
 |cons _ _ ih=>simp[ih]
theorem FzL.get{H:QD}{as:List AV}{ts:List TV}(h:FzL H as ts):∀ i (hi:i<as.length) (Y6:i<ts.length),FzA H as[i] ts[i]:=by
 induction h with
 |nil=>intro i hi;simp at hi
 |cons h _ ih =>
  intro i hi Y6;cases i with
  |zero=>exact h
  |succ i=>exact ih i (by simpa using hi) (by simpa using Y6)
theorem Q9.fz{f:FuncId}{tvs tvs':List TV}{r:TV}(hp:Q9 P f tvs r)(h:FzL noH (tvs'.map emb) tvs):Q9 P f tvs' r:=by
 refine⟨hp.1,fun ok w vs YA hv=>hp.2 ok w vs YA ⟨?_,fun i hi Y6=>?_⟩⟩
 .rw[hv.1,h.len];simp
 .have hH:HR noρ ok noH w:=⟨(fun b cs hb=>by cases hb),(fun _ _=>rfl),(fun _ _ _ h=>by cases h),fun n hn=>⟨YA n hn,(fun b h=>by cases h)⟩⟩
  have XS:i<tvs.length:=by simpa using hi
  have h1:i<(tvs'.map emb).length:=by rw[h.len];exact XS
  have h2:=(h.get i h1 XS).sound hH (hv.2 i h1 Y6);have e:zbe ok noρ=ok:=by
   funext n;simp[zbe,noρ]
  rw[e]at h2;simpa using h2
theorem zf9{f:FuncId}{as:List AV}{tvs' tvs:List TV}{r:TV}{m:Nat}{σ:St}{K:AV->St->Prop}(hp:Q9 P f tvs r)(YY:as=tvs'.map emb)(h:FzL noH (tvs'.map emb) tvs)(hK:K (emb r) σ):ZK P m f as σ K:=Q3 (hp.fz h) YY hK
theorem fzW{H:QD}{nl:Option Bool}{xs:List (List T)}:FzA H (.one (.t (.seq nl xs))) (.one (.seq none xs)):=.one .weak
end Go.Abs
