/- At every input the call answers true and leaves its arguments as they were; no conditions. -/
import Derived.Test.YtlgjjcmljmjenaaGreatAb
import Derived.KernelRfl
import Derived.Laws.Append
set_option linter.unusedSimpArgs false
set_option linter.unusedVariables false
set_option maxRecDepth 100000
namespace Go.Abs
section
variable {P:Program} {m:Nat} {ops:List Oper} {Q:Exit->St->Prop} {q:St->Prop} {σ σ':St} {K:AV->St->Prop}
def KR(P:Program)(m:Nat)(ops:List Oper)(q:St->Prop)(l:List Oper)(d:Option Nat)(v:AV)(σ:St):Prop:=Ye P m ops q l (σ.putO d v)
@[go_sem] theorem KR_eq{l:List Oper}{d:Option Nat}{v:AV}:KR P m ops q l d v σ=Ye P m ops q l (σ.putO d v):=rfl
def zhV(c:Option Bool)(P:Program)(x y:Code)(Q:Exit->St->Prop)(σ:St):Prop:=BR c (wpA P x Q σ) (wpA P y Q σ)
@[go_sem] theorem zAQ{x y:Code}:zhV (some true) P x y Q σ=wpA P x Q σ:=rfl
@[go_sem] theorem zz5{x y:Code}:zhV (some false) P x y Q σ=wpA P y Q σ:=rfl
theorem QI{c:Prop}[Decidable c]{x y:Code}(h:c->wpA P x Q σ)(h':¬c->wpA P y Q σ):zhV (some (decide c)) P x y Q σ:=by
 by_cases hc:c<;>simp[zhV,BR,hc,h,h']
def zl1(c:Option Bool)(P:Program)(m:Nat)(ops:List Oper)(q:St->Prop)(o:Oper)(l:List Oper)(σ:St):Prop :=
 BR c (QV P m o σ (KR P m ops q l o.dst)) (Ye P m ops q l (σ.putO o.dst undefA))
@[go_sem] theorem zz6{o:Oper}{l:List Oper}:zl1 (some true) P m ops q o l σ=QV P m o σ (KR P m ops q l o.dst):=rfl
@[go_sem] theorem zzK{o:Oper}{l:List Oper}:zl1 (some false) P m ops q o l σ=Ye P m ops q l (σ.putO o.dst undefA):=rfl
@[go_sem] theorem zC6:wpA P .skip Q σ=Q .normal σ:=rfl
@[go_sem] theorem zDZ{a b:Code}:wpA P (.seq a b) Q σ=wpA P a (zcp (wpA P b Q) Q) σ:=rfl
@[go_sem] theorem zC7{c:Operand}{x y:Code}:wpA P (.cond c x y) Q σ=zhV (ev σ.s c).boolOf P x y Q σ:=rfl
@[go_sem] theorem zBR{id:Nat}{c:Code}:wpA P (.block id c) Q σ=wpA P c (zfC id Q) σ:=rfl
@[go_sem] theorem zC8{c:Code}:wpA P (.loop c) Q σ=zmz (wpA P c) Q σ:=rfl
@[go_sem] theorem zC9{id:Nat}:wpA P (.exit id) Q σ=Q (.exit id) σ:=rfl
@[go_sem] theorem zD0:wpA P .ret Q σ=Q .ret σ:=rfl
@[go_sem] theorem zD1{id:Nat}{l:List Oper}:wpA P (.region id l.toArray false) Q σ=Ye P 2 l (Q .normal) l σ:=rfl
@[go_sem] theorem zDa{id:Nat}{o:Array Oper}:wpA P (.region id o true) Q σ=zfU P o (Q .normal) σ:=rfl
theorem Q3{l:List Oper}(m:Nat)(h:zhH m [] l.toArray=true)(h':Ye P m l q l σ):zfU P l.toArray q σ:=.inl ⟨m,[],σ,fun ρ ok _ w h=>⟨ρ,ok,h,Goes.refl ρ ok w⟩,h,fun _ hp=>Qn hp (by simp),h'⟩
theorem zwT{l:List Oper}(m:Nat)(bl:List (Nat×Nat))(h:zhH m bl l.toArray=true)(hg:Yy bl σ)(h':Ye P m l q l σ):zfU P l.toArray q σ:=.inl ⟨m,bl,σ,fun ρ ok _ w h=>⟨ρ,ok,h,Goes.refl ρ ok w⟩,h,hg,h'⟩
@[go_sem] theorem ztS:Yy [] σ=True:=by unfold Yy;simp
@[go_sem] theorem zsS{p:Nat×Nat}{bl:List (Nat×Nat)}:Yy (p::bl) σ=((∃ o,σ.s p.1 = .one (.ptr p.2 o))/\Yy bl σ):=by unfold Yy;simp
@[go_sem] theorem zz7{K:St->Prop}:zcp K Q .normal σ=K σ:=rfl
@[go_sem] theorem zDb{K:St->Prop}:zcp K Q .ret σ=Q .ret σ:=rfl
@[go_sem] theorem zBS{K:St->Prop}{id:Nat}:zcp K Q (.exit id) σ=Q (.exit id) σ:=rfl
@[go_sem] theorem zzE{id:Nat}:zfC id Q .normal σ=Q .normal σ:=rfl
@[go_sem] theorem zAR{id:Nat}:zfC id Q .ret σ=Q .ret σ:=rfl
@[go_sem] theorem zz8{id id':Nat}:zfC id Q (.exit id') σ=if id'=id then Q .normal σ else Q (.exit id') σ:=rfl
@[go_sem] theorem zAS:Ye P m ops q [] σ=q σ:=rfl
@[go_sem] theorem zzL{d:Option Nat}{op:Op}{ty:TypeId}{pos:String}{af:Array Edge}{l:List Oper} :
  Ye P m ops q ({ dst:=d,op:=op,type:=ty,pos:=pos,after:=af,guard:=none }::l) σ =
   (zaP σ.n d=true/\QV P m { dst:=d,op:=op,type:=ty,pos:=pos,after:=af,guard:=none } σ (KR P m ops q l d)):=rfl
@[go_sem] theorem zzM{d:Option Nat}{op:Op}{ty:TypeId}{pos:String}{af:Array Edge}{l:List Oper}{g:Nat×Bool} :
  Ye P m ops q ({ dst:=d,op:=op,type:=ty,pos:=pos,after:=af,guard:=some g }::l) σ =
   (zaP σ.n d=true/\zl1 (zbz ops σ (some g)) P m ops q { dst:=d,op:=op,type:=ty,pos:=pos,after:=af,guard:=some g } l σ):=rfl
@[go_sem] theorem zAT{n d:Nat}:zaP n (some d)=decide (d<n):=rfl
@[go_sem] theorem zAU{n:Nat}:zaP n none=true:=rfl
@[go_sem] theorem put_n{d:Nat}{v:AV}:(σ.put d v).n=σ.n:=rfl
@[go_sem] theorem put_H{d:Nat}{v:AV}:(σ.put d v).H=σ.H:=rfl
@[go_sem] theorem put_s{d t:Nat}{v:AV}:(σ.put d v).s t=if t=d then v else σ.s t:=rfl
@[go_sem] theorem zBT{d:Nat}{v:AV}:σ.putO (some d) v=σ.put d v:=rfl
@[go_sem] theorem zBU{v:AV}:σ.putO none v=σ:=rfl
@[go_sem] theorem zD2{H:QE}:(σ.withH H).n=σ.n:=rfl
@[go_sem] theorem zD3{H:QE}{t:Nat}:(σ.withH H).s t=σ.s t:=rfl
@[go_sem] theorem zD4{H:QE}:(σ.withH H).H=H:=rfl
@[go_sem] theorem init_n{n:Nat}{as:List AV}{H:QE}:(zaZ n as H).n=n:=rfl
@[go_sem] theorem init_H{n:Nat}{as:List AV}{H:QE}:(zaZ n as H).H=H:=rfl
@[go_sem] theorem init_s{n t:Nat}{as:List AV}{H:QE}:(zaZ n as H).s t=as.getD t undefA:=rfl
@[go_sem] theorem zaG{H:QE}{b n:Nat}{x:Option (List C)}:upd H b x n=if n=b then x else H n:=rfl
@[go_sem] theorem noH_at{n:Nat}:noH n=none:=rfl
@[go_sem] theorem ev_tmp{s:Nat->AV}{t:Nat}:ev s (.tmp t)=s t:=rfl
@[go_sem] theorem zDc{s:Nat->AV}{v:Value}:ev s (.const v)=zec v:=rfl
@[go_sem] theorem zD5{s:Nat->AV}{f:FuncId}:ev s (.func f) = .one (.fn f []):=rfl
@[go_sem] theorem zDd{k:IntKind}{n:Int}:zec (.int k n)=litI k n:=rfl
@[go_sem] theorem zBV{b:Bool}:zec (.bool b)=QO b:=rfl
@[go_sem] theorem zDe:zec (.pointer none) = .one (.t (.lit (.pointer none))):=rfl
@[go_sem] theorem zDf{s:ByteArray}:zec (.string s) = .one (.t (.lit (.string s))):=rfl
@[go_sem] theorem zDg:zec (.slice none 0 0) = .one (.t (.seq (some true) [])):=rfl
@[go_sem] theorem zz9{b:Bool}:(QO b).boolOf=some b:=rfl
@[go_sem] theorem zAV{k:IntKind}{n:Int}:(litI k n).intOf=some (k,n):=rfl
@[go_sem] theorem zAa{c:C}:(AV.one c).cellsOf=some [c]:=rfl
@[go_sem] theorem zAb{cs:List C}:(AV.agg cs).cellsOf=some cs:=rfl
@[go_sem] theorem zzN{k:IntKind}{n:Int}:(litI k n).cellsOf=some [.t (.lit (.int k n))]:=rfl
@[go_sem] theorem zzO{b:Bool}:(QO b).cellsOf=some [.t (.lit (.bool b))]:=rfl
@[go_sem] theorem zAc{H:QE}{b off:Nat}:ZL H (.one (.ptr b off))=(H b).map (·.drop off):=rfl
@[go_sem] theorem zzP{H:QE}{cs:List T}:ZL H (.iptr cs)=some (cs.map .t):=rfl
@[go_sem] theorem zDh{b:Bool}:AV.one (.t (.lit (.bool b)))=QO b:=rfl
@[go_sem] theorem zD6{k:IntKind}{n:Int}:AV.one (.t (.lit (.int k n)))=litI k n:=rfl
@[go_sem] theorem zBW{g:Nat}{w:Bool}:zbz ops σ (some (g,w))=zh0 σ.s w (zdt ops g):=rfl
@[go_sem] theorem zAW{s:Nat->AV}{w:Bool}{t:Tmp}:zh0 s w (some t)=zhZ (s t) w:=rfl
@[go_sem] theorem zD7{b w:Bool}:zhZ (QO b) w=some (b==w):=rfl
@[go_sem] theorem zAd{w:Bool}:zhZ undefA w=some false:=rfl
@[go_sem] theorem zAX{d:Option Nat}{op:Op}{ty:TypeId}{pos:String}{af:Array Edge}{g:Option (Nat×Bool)}{l:List Oper}:zdt ({ dst:=d,op:=op,type:=ty,pos:=pos,after:=af,guard:=g }::l) 0=d:=rfl
@[go_sem] theorem zAY{o:Oper}{l:List Oper}{n:Nat}:zdt (o::l) (n+1)=zdt l n:=rfl
theorem Q2{f:FuncId}{as:List AV}{tvs:List TV}{r:TV}(h:Q7 P f tvs r)(h':as=tvs.map emb)(hK:K (emb r) σ):ZM P m f as σ K:=.inl ⟨tvs,r,h',h,hK⟩
end
section
variable {P:Program} {m:Nat} {σ:St} {K:AV->St->Prop} {d:Nat} {d':Option Nat} {ty:TypeId} {pos:String} {af:Array Edge} {g:Option (Nat×Bool)}
@[go_sem] theorem zDu{x:Operand}:QV P m ⟨some d,.move x,ty,pos,af,g⟩ σ K=K (ev σ.s x) σ:=by
 simp only[QV,Zi,if_true,zaj,Zo,opV,opH,Qt];rfl
@[go_sem] theorem zA2{x:Operand}:QV P m ⟨some d,.assign x,ty,pos,af,g⟩ σ K=K (ev σ.s x) σ:=by
 simp only[QV,Zi,if_true,zaj,Zo,opV,opH,Qt];rfl
@[go_sem] theorem zDv{c x y:Operand}:QV P m ⟨some d,.pick c x y,ty,pos,af,g⟩ σ K=((ev σ.s c).boolOf.isSome=true/\K (if(ev σ.s c).boolOf=some true then ev σ.s x else ev σ.s y) σ):=by
 simp only[QV,Zi,if_true,zaj,Zo,opV,opH];rfl
@[go_sem] theorem zB6{t:TypeId}:QV P m ⟨some d,.alloc t,ty,pos,af,g⟩ σ K=((tok P t=true/\(tzero P t).isSome=true/\σ.H d=none)/\K (.one (.ptr d 0)) (σ.withH (upd σ.H d (tzero P t)))):=by
 simp only[QV,Zi,if_true,zaj,Zo,opV,opH,waX]
@[go_sem] theorem st_box{t:TypeId}{x:Operand}:QV P m ⟨some d,.box t x,ty,pos,af,g⟩ σ K=(((ev σ.s x).cellsOf.isSome=true/\σ.H d=none)/\K (.one (.ptr d 0)) (σ.withH (upd σ.H d (ev σ.s x).cellsOf))):=by
 simp only[QV,Zi,if_true,zaj,Zo,opV,opH,waX]
@[go_sem] theorem zB7{t:TypeId}{ps:List (Nat×Operand)}:QV P m ⟨some d,.build t ps.toArray,ty,pos,af,g⟩ σ K =
  ((tok P t=true/\partsTok P t=true/\(zeD P t (ps.map fun p=>(p.1,ev σ.s p.2))).isSome=true)/\K (.agg ((zeD P t (ps.map fun p=>(p.1,ev σ.s p.2))).getD [])) σ):=by
 simp only[QV,Zi,if_true,zaj,Zo,opV,opH];rfl
@[go_sem] theorem zrN{t:TypeId}{n:Nat}{ps:List (Nat×Operand)}(hn:n≠0)(hp:zee ps=false):QV P m ⟨some d,.buildSlice t n ps.toArray,ty,pos,af,g⟩ σ K =
  ((tok P t=true/\isSliceD (tdesc P t)=true/\tok P (telem P t)=true/\n*tsize P (telem P t)<=2^24/\0<n*tsize P (telem P t)/\((tzero P (telem P t)).map (·.length))=some (tsize P (telem P t)) /\
   (zb7 P t n (ps.map fun p=>(p.1,ev σ.s p.2))).isSome=true)/\K ((zb7 P t n (ps.map fun p=>(p.1,ev σ.s p.2))).getD .junk) σ):=by
 have e:(n != 0)=true:=by simpa using hn
 have e2:zee ps.toArray.toList=false:=by simpa using hp
 simp only[QV,Zi,e,e2,wcX,wdp,if_true,zaj,Zo,opV,opH];rfl
@[go_sem] theorem zB8:zee []=false:=rfl
@[go_sem] theorem zA3{p:Nat×Operand}{l:List (Nat×Operand)}:zee (p::l)=zgO p.2:=rfl
@[go_sem] theorem zB9{n:Nat}:zgO (.tmp n)=(decide (n=5)||decide (n=104)):=rfl
@[go_sem] theorem zAi{v:Value}:zgO (.const v)=false:=rfl
@[go_sem] theorem zzA{t:TypeId}{n i:Nat}{ps:List (Nat×Operand)}{d':Option Nat}:QV P m ⟨d',.buildSlice t n ((i,.tmp 5)::ps).toArray,ty,pos,af,g⟩ σ K=OpA P m ⟨d',.buildSlice t n ((i,.tmp 5)::ps).toArray,ty,pos,af,g⟩ σ K:=by
 have e:(n != 0&&!zee ((i,Operand.tmp 5)::ps).toArray.toList)=false:=by simp[zee,zgO]
 simp only[QV,Zi,e,wa3,if_false]
@[go_sem] theorem zzy{t:TypeId}{n i:Nat}{ps:List (Nat×Operand)}{d':Option Nat}:QV P m ⟨d',.buildSlice t n ((i,.tmp 104)::ps).toArray,ty,pos,af,g⟩ σ K=OpA P m ⟨d',.buildSlice t n ((i,.tmp 104)::ps).toArray,ty,pos,af,g⟩ σ K:=by
 have e:(n != 0&&!zee ((i,Operand.tmp 104)::ps).toArray.toList)=false:=by simp[zee,zgO]
 simp only[QV,Zi,e,wa3,if_false]
@[go_sem] theorem zzB{t:TypeId}{ps:Array (Nat×Operand)}{d':Option Nat}:QV P m ⟨d',.buildSlice t 0 ps,ty,pos,af,g⟩ σ K=OpA P m ⟨d',.buildSlice t 0 ps,ty,pos,af,g⟩ σ K:=rfl
@[go_sem] theorem zDw{t:TypeId}{x:Operand}:QV P m ⟨some d,.load t x,ty,pos,af,g⟩ σ K =
  ((tok P t=true/\(ZL σ.H (ev σ.s x)).isSome=true/\(if tagg P t then tsize P t else 1)<=((ZL σ.H (ev σ.s x)).getD []).length) /\
   K (if tagg P t then .agg (((ZL σ.H (ev σ.s x)).getD []).take (tsize P t))else .one (((ZL σ.H (ev σ.s x)).getD []).headD default)) σ):=by
 simp only[QV,Zi,if_true,zaj,Zo,opV,opH];rfl
def zpn(P:Program)(H:QE)(t:TypeId):AV->AV->Prop
 |.one (.ptr b off),x=>(match H b,x.cellsOf with|some cs,some ns=>ns.length=tsize P t/\off+ns.length<=cs.length|_,_=>False)
 |_,_=>False
def zqk(H:QE):AV->AV->QE
 |.one (.ptr b off),x=>upd H b (some (Yq ((H b).getD []) off (x.cellsOf.getD [])))
 |_,_=>H
@[go_sem] theorem zCa{t:TypeId}{x y:Operand}:QV P m ⟨d',.store t x y,ty,pos,af,g⟩ σ K =
  ((tok P t=true/\zpn P σ.H t (ev σ.s x) (ev σ.s y))/\K undefA (σ.withH (zqk σ.H (ev σ.s x) (ev σ.s y)))):=by
 simp only[QV,Zi,if_true,zaj,Zo,opV,opH];cases ev σ.s x with
 |one c=>cases c<;>rfl
 |_=>rfl
@[go_sem] theorem zzQ{H:QE}{t:TypeId}{b off:Nat}{x:AV}:zpn P H t (.one (.ptr b off)) x=(match H b,x.cellsOf with|some cs,some ns=>ns.length=tsize P t/\off+ns.length<=cs.length|_,_=>False):=rfl
@[go_sem] theorem zAj{H:QE}{b off:Nat}{x:AV}:zqk H (.one (.ptr b off)) x=upd H b (some (Yq ((H b).getD []) off (x.cellsOf.getD []))):=rfl
@[go_sem] theorem zzR{x:Operand}:QV P m ⟨some d,.nilCheck x,ty,pos,af,g⟩ σ K=(zbc (ev σ.s x)=true/\K (ev σ.s x) σ):=by
 simp only[QV,Zi,if_true,zaj,Zo,opV,opH];rfl
@[go_sem] theorem zCb{op:BinOp}{t t':TypeId}{x y:Operand}:QV P m ⟨some d,.binOp op t x y t',ty,pos,af,g⟩ σ K =
  (((zaT op (ev σ.s x) (ev σ.s y)).isSome=true/\zd7 op (ev σ.s y)/\zcY P t (ev σ.s x))/\K ((zaT op (ev σ.s x) (ev σ.s y)).getD .junk) σ):=by
 simp only[QV,Zi,if_true,zaj,Zo,opV,opH];rfl
@[go_sem] theorem zDx{op:UnOp}{t:TypeId}{x:Operand}:QV P m ⟨some d,.unOp op t x,ty,pos,af,g⟩ σ K=((unV op (ev σ.s x)).isSome=true/\K ((unV op (ev σ.s x)).getD .junk) σ):=by
 simp only[QV,Zi,if_true,zaj,Zo,opV,opH];rfl
@[go_sem] theorem zAk{s t:TypeId}{x:Operand}:QV P m ⟨some d,.convert s t x,ty,pos,af,g⟩ σ K=((tok P s=true/\tok P t=true/\(zeN P s t (ev σ.s x)).isSome=true)/\K ((zeN P s t (ev σ.s x)).getD .junk) σ):=by
 simp only[QV,Zi,if_true,zaj,Zo,opV,opH];rfl
def zhA(bytes:Nat):Option (IntKind×Int)->Option (IntKind×Int)->Prop
 |some (_,n),some (_,c)=>0<=n/\n<=c/\c<2^62/\bytes*c<=2^47
 |_,_=>False
@[go_sem] theorem zzS{bytes:Nat}{k k':IntKind}{n c:Int}:zhA bytes (some (k,n)) (some (k',c))=(0<=n/\n<=c/\c<2^62/\bytes*c<=2^47):=rfl
@[go_sem] theorem zzF{t:TypeId}{l c:Operand}:QV P m ⟨some d,.makeSlice t l c,ty,pos,af,g⟩ σ K =
  ((tok P t=true/\isSliceD (tdesc P t)=true/\tok P (telem P t)=true/\(tzero P (telem P t)).isSome=true/\((tzero P (telem P t)).getD []).length=tsize P (telem P t)/\0<tsize P (telem P t)/\σ.H d=none /\
   zhA (tbytes P (telem P t)) (ev σ.s l).intOf (ev σ.s c).intOf)/\K (.one (.vec d (tsize P (telem P t)) 0 (idx (ev σ.s l)))) (σ.withH (upd σ.H d (some (Zh (idx (ev σ.s l)) ((tzero P (telem P t)).getD [])))))):=by
 simp only[QV,Zi,if_true,zaj,Zo,opV,opH,waX];cases h1:(ev σ.s l).intOf with
 |none=>simp[zhA]
 |some p=>cases h2:(ev σ.s c).intOf with
  |none=>simp[zhA]
  |some q=>simp[zhA]
def zfQ(x:AV):Option Nat->Option Nat->Nat->Prop
 |some l,some h,n=>l<=h/\h<=n/\(match x with|.one (.vec _ _ _ _)=>l=0\/l<h|_=>True)
 |_,_,_=>False
@[go_sem] theorem zCc{t:TypeId}{x:Operand}{lo hi:Option Operand}:QV P m ⟨some d,.slice t x lo hi none,ty,pos,af,g⟩ σ K =
  ((tok P t=true/\zey P t (ev σ.s x)/\(ev σ.s x).lenOf.isSome=true/\zfQ (ev σ.s x) (zau 0 (lo.map (ev σ.s))) (zau ((ev σ.s x).lenOf.getD 0) (hi.map (ev σ.s))) ((ev σ.s x).lenOf.getD 0)) /\
   K (zcT (tsize P (telem P t)) (ev σ.s x) ((zau 0 (lo.map (ev σ.s))).getD 0) ((zau ((ev σ.s x).lenOf.getD 0) (hi.map (ev σ.s))).getD 0)) σ):=by
 simp only[QV,Zi,if_true,zaj,Zo,opV,opH,zbh,Option.isNone_none,Qt];cases h1:(ev σ.s x).lenOf with
 |none=>simp
 |some n =>
  simp only[waX];cases h2:zau 0 (lo.map (ev σ.s))with
  |none=>simp[zfQ]
  |some l=>cases h3:zau n (hi.map (ev σ.s))with
   |none=>simp[zfQ]
   |some h=>simp only[zfQ,Option.isSome_some,waX,Qt];rfl
@[go_sem] theorem zzG{t:TypeId}{x:Operand}{f:Nat}:QV P m ⟨some d,.fieldAddr t x f,ty,pos,af,g⟩ σ K =
  ((tok P t=true/\isStructD (tdesc P t)=true/\f<nfields P t/\tok P (fty P t f)=true/\0<tsize P (fty P t f)/\zbc (ev σ.s x)=true)/\K (zcS (ev σ.s x) (foff P t f)) σ):=by
 simp only[QV,Zi,if_true,zaj,Zo,opV,opH];rfl
def zhO(n:Nat):AV->Prop
 |.agg cs=>n<=cs.length
 |_=>False
def ze4:AV->List C
 |.agg cs=>cs
 |_=>[]
@[go_sem] theorem zCd{t:TypeId}{x:Operand}{f:Nat}:QV P m ⟨some d,.field t x f,ty,pos,af,g⟩ σ K =
  ((tok P t=true/\isStructD (tdesc P t)=true/\f<nfields P t/\tok P (fty P t f)=true/\zhO (if tagg P (fty P t f)then foff P t f+tsize P (fty P t f)else foff P t f+1) (ev σ.s x)) /\
   K (if tagg P (fty P t f)then .agg (((ze4 (ev σ.s x)).drop (foff P t f)).take (tsize P (fty P t f)))else .one (((ze4 (ev σ.s x)).drop (foff P t f)).headD default)) σ):=by
 simp only[QV,Zi,if_true,zaj,Zo,opV,opH,zbh];cases ev σ.s x<;>simp[zhO,ze4]
def zfG(x i:AV):Prop:=match x.lenOf with|some n=>zaE i n|none=>False
theorem zrU{t:TypeId}{x y:Operand}(h:isSliceD (tdesc P t)=true):QV P m ⟨some d,.indexAddr t x y,ty,pos,af,g⟩ σ K =
  ((tok P t=true/\tok P (telem P t)=true/\zd2 (tsize P (telem P t)) (ev σ.s x) (idx (ev σ.s y))/\zfG (ev σ.s x) (ev σ.s y))/\K (zcC (tsize P (telem P t)) (ev σ.s x) (idx (ev σ.s y))) σ):=by
 have Jv:isArrayD (tdesc P t)=false:=by rw[zaM h];rfl
 simp only[QV,Zi,if_true,zaj,Zo,opV,opH,zbh,h,Jv];simp only[zfG,wa3,false_and,Qw,Qt];rfl
theorem zsd{t:TypeId}{x y:Operand}(h:isSliceD (tdesc P t)=false):QV P m ⟨some d,.indexAddr t x y,ty,pos,af,g⟩ σ K =
  ((tok P t=true/\tok P (telem P t)=true/\isArrayD (tdesc P t)=true/\zbc (ev σ.s x)=true/\zaE (ev σ.s y) (arrLen (tdesc P t)))/\K (zcS (ev σ.s x) (idx (ev σ.s y)*tsize P (telem P t))) σ):=by
 simp only[QV,Zi,if_true,zaj,Zo,opV,opH,zbh,h];simp
@[go_sem] theorem st_idx{t:TypeId}{x y:Operand}:QV P m ⟨some d,.indexAddr t x y,ty,pos,af,g⟩ σ K =
  (if isSliceD (tdesc P t)=true then((tok P t=true/\tok P (telem P t)=true/\zd2 (tsize P (telem P t)) (ev σ.s x) (idx (ev σ.s y))/\zfG (ev σ.s x) (ev σ.s y))/\K (zcC (tsize P (telem P t)) (ev σ.s x) (idx (ev σ.s y))) σ)
   else((tok P t=true/\tok P (telem P t)=true/\isArrayD (tdesc P t)=true/\zbc (ev σ.s x)=true/\zaE (ev σ.s y) (arrLen (tdesc P t)))/\K (zcS (ev σ.s x) (idx (ev σ.s y)*tsize P (telem P t))) σ)):=by
 split
 .rename_i h;exact zrU h
 .rename_i h;exact zsd (by simpa using h)
@[go_sem] theorem zAl{x:Operand}{i:Nat}:QV P m ⟨some d,.extract x i,ty,pos,af,g⟩ σ K=((match ev σ.s x with|.tup vs=>i<vs.length|_=>False)/\K (match ev σ.s x with|.tup vs=>vs.getD i .junk|_=>.junk) σ):=by
 simp only[QV,Zi,if_true,zaj,Zo,opV,opH];rfl
@[go_sem] theorem zzT{f:FuncId}{first caps:List Operand}:QV P m ⟨some d,.makeFunc (.func f) first.toArray caps.toArray,ty,pos,af,g⟩ σ K =
  ((first.length=0/\(zcU (caps.map (ev σ.s))).isSome=true)/\K (.one (.fn f ((zcU (caps.map (ev σ.s))).getD []))) σ):=by
 simp only[QV,Zi,if_true,zaj,Zo,opV,opH,zbh];simp
@[go_sem] theorem zA4{t:TypeId}{nl:Option Bool}{xs:List (List T)}:zcj P t (.one (.t (.seq nl xs)))=(isSliceD (tdesc P t)=true):=by simp[zcj,AV.lenOf]
@[go_sem] theorem zA5{t:TypeId}{b s o n:Nat}:zcj P t (.one (.vec b s o n))=(isSliceD (tdesc P t)=true):=by simp[zcj,AV.lenOf]
@[go_sem] theorem zA6{t:TypeId}{s:ByteArray}:zcj P t (.one (.t (.lit (.string s))))=(tdesc P t = .string):=rfl
@[go_sem] theorem st_len{t:TypeId}{x:Operand}:QV P m ⟨some d,.call { callee:=.builtin .len,args:=#[x],argTypes:=#[t] },ty,pos,af,g⟩ σ K =
  ((tok P t=true/\zcj P t (ev σ.s x))/\K (litI .i64 ((ev σ.s x).lenOf.getD 0:Nat)) σ):=rfl
@[go_sem] theorem zCe{f:FuncId}{as:List Operand}{ats:Array TypeId}:QV P m ⟨d',.call { callee:=.value (.func f),args:=as.toArray,argTypes:=ats },ty,pos,af,g⟩ σ K=ZM P m f (as.map (ev σ.s)) σ K:=by
 simp[QV,zaO,ev,zdk]
@[go_sem] theorem zCf{t:Tmp}{as:List Operand}{ats:Array TypeId}:QV P m ⟨d',.call { callee:=.value (.tmp t),args:=as.toArray,argTypes:=ats },ty,pos,af,g⟩ σ K=zaO P m (σ.s t) (as.map (ev σ.s)) σ K:=by
 simp[QV,ev]
@[go_sem] theorem zCg{f:FuncId}{caps:List (Nat×Nat)}{as:List AV}:zaO P m (.one (.fn f caps)) as σ K=ZM P m f (as++caps.map zka) σ K:=rfl
@[go_sem] theorem zA7{f:FuncId}{caps:List (List T)}{as:List AV}:zaO P m (.one (.t (.clo f caps))) as σ K=ZM P m f (as++caps.map AV.iptr) σ K:=rfl
@[go_sem] theorem zAm{b off:Nat}:zbc (.one (.ptr b off))=true:=rfl
@[go_sem] theorem zzU{cs:List T}:zbc (.iptr cs)=true:=rfl
@[go_sem] theorem zAn{b off k:Nat}:zcS (.one (.ptr b off)) k = .one (.ptr b (off+k)):=rfl
@[go_sem] theorem zzV{cs:List T}{k:Nat}:zcS (.iptr cs) k = .iptr (cs.drop k):=rfl
@[go_sem] theorem zCh{k:IntKind}{n:Int}:idx (litI k n)=n.toNat:=rfl
@[go_sem] theorem zzH{k:IntKind}{n:Int}{N:Nat}:zaE (litI k n) N=(0<=n/\n<N):=rfl
@[go_sem] theorem zA8{nl:Option Bool}{xs:List (List T)}:(AV.one (.t (.seq nl xs))).lenOf=some xs.length:=rfl
@[go_sem] theorem zA9{b s o n:Nat}:(AV.one (.vec b s o n)).lenOf=some n:=rfl
@[go_sem] theorem zBa{s:ByteArray}:(AV.one (.t (.lit (.string s)))).lenOf=some s.size:=rfl
@[go_sem] theorem zBb{sz i:Nat}{nl:Option Bool}{xs:List (List T)}:zcC sz (.one (.t (.seq nl xs))) i = .iptr (xs.getD i []):=rfl
@[go_sem] theorem zBc{sz i b s o n:Nat}:zcC sz (.one (.vec b s o n)) i = .one (.ptr b (o+i*sz)):=rfl
@[go_sem] theorem zAo{sz i:Nat}{nl:Option Bool}{xs:List (List T)}:zd2 sz (.one (.t (.seq nl xs))) i=∀ x∈xs,x.length=sz:=rfl
@[go_sem] theorem zAp{sz i b s o n:Nat}:zd2 sz (.one (.vec b s o n)) i=(s=sz):=rfl
@[go_sem] theorem zBd{nl:Option Bool}{xs:List (List T)}{i:AV}:zfG (.one (.t (.seq nl xs))) i=zaE i xs.length:=rfl
@[go_sem] theorem zBe{b s o n:Nat}{i:AV}:zfG (.one (.vec b s o n)) i=zaE i n:=rfl
@[go_sem] theorem zAq{sz lo hi:Nat}{nl:Option Bool}{xs:List (List T)}:zcT sz (.one (.t (.seq nl xs))) lo hi = .one (.t (.seq nl ((xs.take hi).drop lo))):=rfl
@[go_sem] theorem zAr{sz lo hi b s o n:Nat}:zcT sz (.one (.vec b s o n)) lo hi = .one (.vec b s (o+lo*sz) (hi-lo)):=rfl
@[go_sem] theorem zzW{sz:Nat}{nl:Option Bool}{xs:List (List T)}:zhs sz (.one (.t (.seq nl xs)))=∀ x∈xs,x.length=sz:=rfl
@[go_sem] theorem zzX{sz b s o n:Nat}:zhs sz (.one (.vec b s o n))=(s=sz):=rfl
@[go_sem] theorem zzY{t:TypeId}{nl:Option Bool}{xs:List (List T)}:zey P t (.one (.t (.seq nl xs)))=(isSliceD (tdesc P t)=true/\tok P (telem P t)=true/\∀ x∈xs,x.length=tsize P (telem P t)):=rfl
@[go_sem] theorem zzZ{t:TypeId}{b s o n:Nat}:zey P t (.one (.vec b s o n))=(isSliceD (tdesc P t)=true/\tok P (telem P t)=true/\s=tsize P (telem P t)):=rfl
@[go_sem] theorem zz0{t:TypeId}{s:ByteArray}:zey P t (.one (.t (.lit (.string s))))=(tdesc P t = .string):=rfl
@[go_sem] theorem zAs{sz lo hi:Nat}{s:ByteArray}:zcT sz (.one (.t (.lit (.string s)))) lo hi = .one (.t (.lit (.string (s.extract lo hi)))):=rfl
@[go_sem] theorem zCi{op:BinOp}{x y:ByteArray}:zaT op (.one (.t (.lit (.string x)))) (.one (.t (.lit (.string y))))=zed op x y:=rfl
@[go_sem] theorem zCj{x y:ByteArray}:zed .eql x y=some (QO (x.toList==y.toList)):=rfl
@[go_sem] theorem zCk{x y:ByteArray}:zed .neq x y=some (QO (!(x.toList==y.toList))):=rfl
@[go_sem] theorem zCl{x y:ByteArray}:zed .lss x y=some (QO (Op.bytesLess x.toList y.toList)):=rfl
@[go_sem] theorem zCm{x y:ByteArray}:zed .leq x y=some (QO (Op.bytesLess x.toList y.toList||x.toList==y.toList)):=rfl
@[go_sem] theorem zCn{x y:ByteArray}:zed .gtr x y=some (QO (!(Op.bytesLess x.toList y.toList||x.toList==y.toList))):=rfl
@[go_sem] theorem zCo{x y:ByteArray}:zed .geq x y=some (QO (!(Op.bytesLess x.toList y.toList))):=rfl
@[go_sem] theorem zBf{op:BinOp}{s:ByteArray}:zd7 op (.one (.t (.lit (.string s))))=True:=rfl
@[go_sem] theorem zBg{t:TypeId}{s:ByteArray}:zcY P t (.one (.t (.lit (.string s))))=True:=rfl
@[go_sem] theorem zz1{s:ByteArray}:(AV.one (.t (.lit (.string s)))).cellsOf=some [.t (.lit (.string s))]:=rfl
@[go_sem] theorem zCp{b s o k:Nat}{l h n:Nat}:zfQ (.one (.vec b s o k)) (some l) (some h) n=(l<=h/\h<=n/\(l=0\/l<h)):=rfl
@[go_sem] theorem zz2{d:Nat}:zau d none=some d:=rfl
@[go_sem] theorem zz3{d:Nat}{k:IntKind}{n:Int}:zau d (some (litI k n))=if 0<=n then some n.toNat else none:=rfl
@[go_sem] theorem zCq{op:BinOp}{k:IntKind}{x y:Int}:zaT op (litI k x) (litI k y)=(zaS op k x y).map fun v=>.one (.t (.lit v)):=by simp[litI,zaT]
@[go_sem] theorem zAt{cs:List T}:zaT .neq (.iptr cs) (.one (.t (.lit (.pointer none))))=some (QO true):=rfl
@[go_sem] theorem zAu{cs:List T}:zaT .eql (.iptr cs) (.one (.t (.lit (.pointer none))))=some (QO false):=rfl
@[go_sem] theorem zAv:zaT .neq (.one (.t (.lit (.pointer none)))) (.one (.t (.lit (.pointer none))))=some (QO false):=rfl
@[go_sem] theorem zAw:zaT .eql (.one (.t (.lit (.pointer none)))) (.one (.t (.lit (.pointer none))))=some (QO true):=rfl
@[go_sem] theorem zBh{op:BinOp}:zd7 op (.one (.t (.lit (.pointer none))))=True:=rfl
@[go_sem] theorem zAx{P:Program}{t:TypeId}{cs:List T}:zcY P t (.iptr cs)=(tok P t=true/\zhF (tdesc P t)=true):=rfl
@[go_sem] theorem zAy{P:Program}{t:TypeId}:zcY P t (.one (.t (.lit (.pointer none))))=(tok P t=true/\zhF (tdesc P t)=true):=rfl
@[go_sem] theorem zCr{x y:Bool}:zaT .eql (QO x) (QO y)=some (QO (x==y)):=rfl
@[go_sem] theorem zCs{x y:Bool}:zaT .neq (QO x) (QO y)=some (QO (!(x==y))):=rfl
@[go_sem] theorem zCt{xs:List (List T)}{n:Bool}:zaT .eql (.one (.t (.seq (some n) xs))) (.one (.t (.seq (some true) [])))=some (QO n):=rfl
@[go_sem] theorem zAz{xs:List (List T)}{n:Bool}:zaT .neq (.one (.t (.seq (some n) xs))) (.one (.t (.seq (some true) [])))=some (QO (!n)):=rfl
@[go_sem] theorem zCu{k:IntKind}{x y:Int}:zaS .add k x y=some (.int k (k.wrap (x+y))):=rfl
@[go_sem] theorem zCv{k:IntKind}{x y:Int}:zaS .sub k x y=some (.int k (k.wrap (x-y))):=rfl
@[go_sem] theorem zCw{k:IntKind}{x y:Int}:zaS .mul k x y=some (.int k (k.wrap (x*y))):=rfl
@[go_sem] theorem zCx{k:IntKind}{x y:Int}:zaS .quo k x y=some (.int k (k.wrap (Int.tdiv x y))):=rfl
@[go_sem] theorem zCy{k:IntKind}{x y:Int}:zaS .rem k x y=some (.int k (Int.tmod x y)):=rfl
@[go_sem] theorem zCz{k:IntKind}{x y:Int}:zaS .eql k x y=some (.bool (decide (x=y))):=rfl
@[go_sem] theorem zCA{k:IntKind}{x y:Int}:zaS .neq k x y=some (.bool (decide (x≠y))):=rfl
@[go_sem] theorem zCB{k:IntKind}{x y:Int}:zaS .lss k x y=some (.bool (decide (x<y))):=rfl
@[go_sem] theorem zCC{k:IntKind}{x y:Int}:zaS .leq k x y=some (.bool (decide (x<=y))):=rfl
@[go_sem] theorem zCD{k:IntKind}{x y:Int}:zaS .gtr k x y=some (.bool (decide (y<x))):=rfl
@[go_sem] theorem zCE{k:IntKind}{x y:Int}:zaS .geq k x y=some (.bool (decide (y<=x))):=rfl
@[go_sem] theorem zBi{x:Int}:zaS .shr .u64 x 1=some (.int .u64 (x.fdiv 2)):=rfl
@[go_sem] theorem zBj{op:BinOp}{k:IntKind}{y:Int}:zd7 op (litI k y)=(zjs op=true->y≠0):=rfl
@[go_sem] theorem zDy{op:BinOp}{b:Bool}:zd7 op (QO b)=True:=rfl
@[go_sem] theorem zBk{op:BinOp}{nl:Option Bool}{xs:List (List T)}:zd7 op (.one (.t (.seq nl xs)))=True:=rfl
@[go_sem] theorem zBl{t:TypeId}{k:IntKind}{y:Int}:zcY P t (litI k y)=True:=rfl
@[go_sem] theorem zDz{t:TypeId}{b:Bool}:zcY P t (QO b)=(tok P t=true/\tdesc P t = .bool):=rfl
@[go_sem] theorem zBm{t:TypeId}{nl:Option Bool}{xs:List (List T)}:zcY P t (.one (.t (.seq nl xs)))=(tok P t=true/\isSliceD (tdesc P t)=true):=rfl
@[go_sem] theorem zDA{b:Bool}:unV .not (QO b)=some (QO (!b)):=rfl
@[go_sem] theorem zDB{k:IntKind}{n:Int}:unV .neg (litI k n)=some (litI k (k.wrap (0-n))):=rfl
@[go_sem] theorem zBn{s t:TypeId}{k:IntKind}{n:Int}:zeN P s t (litI k n)=(intD (tdesc P t)).map fun k=>litI k (k.wrap n):=rfl
def zq9(place:Nat->Option (Nat×Nat))(base:List C)(rest:List (Nat×AV)):Option (Nat×Nat)->Option (List C)->Option (List C)
 |some (off,size),some cs=>if cs.length=size/\off+size<=base.length then za1 place (Yq base off cs) rest else none
 |_,_=>none
def zjS(place:Nat->Option (Nat×Nat))(parts:List (Nat×AV)):Option (List C)->Option (List C)
 |some z=>za1 place z parts
 |none=>none
@[go_sem] theorem zBo{place:Nat->Option (Nat×Nat)}{base:List C}:za1 place base []=some base:=rfl
@[go_sem] theorem zAA{place:Nat->Option (Nat×Nat)}{base:List C}{i:Nat}{v:AV}{rest:List (Nat×AV)}:za1 place base ((i,v)::rest)=zq9 place base rest (place i) v.cellsOf:=rfl
@[go_sem] theorem zAB{place:Nat->Option (Nat×Nat)}{base cs:List C}{off size:Nat}{rest:List (Nat×AV)} :
  zq9 place base rest (some (off,size)) (some cs)=if cs.length=size/\off+size<=base.length then za1 place (Yq base off cs) rest else none:=rfl
@[go_sem] theorem zAC{place:Nat->Option (Nat×Nat)}{z:List C}{parts:List (Nat×AV)}:zjS place parts (some z)=za1 place z parts:=rfl
@[go_sem] theorem zBp{t:TypeId}{parts:List (Nat×AV)}:zeD P t parts=zjS (placesA P t) parts (tzero P t):=rfl
def tsOf(sz n:Nat):Option (List C)->Option AV
 |some cs=>(zeT cs).map fun ts=>.one (.t (.seq (some false) (zaH sz n ts)))
 |none=>none
@[go_sem] theorem zBq{sz n:Nat}{cs:List C}:tsOf sz n (some cs)=(zeT cs).map fun ts=>.one (.t (.seq (some false) (zaH sz n ts))):=rfl
@[go_sem] theorem zCF:zeT []=some []:=rfl
@[go_sem] theorem zBr{x:T}{cs:List C}:zeT (.t x::cs)=(zeT cs).map (x::·):=by
 simp only[zeT,zdq];cases zdq (fun|.t x=>some x|_=>none) cs<;>rfl
@[go_sem] theorem zzC{t:TypeId}{n:Nat}{parts:List (Nat×AV)}:zb7 P t n parts =
  tsOf (tsize P (telem P t)) n (zjS (fun i=>some (i*tsize P (telem P t),tsize P (telem P t))) parts ((tzero P (telem P t)).map (Zh n))):=by
 unfold zb7
 dsimp only
 cases hz:tzero P (telem P t)with
 |none=>rfl
 |some z=>simp only[wcG,zjS];cases za1 _ (Zh n z) parts<;>rfl
@[go_sem] theorem zBs{z:List C}:Zh 0 z=[]:=rfl
@[go_sem] theorem zCG{n:Nat}{z:List C}:Zh (n+1) z=z++Zh n z:=zkK n z
@[go_sem] theorem zAD{sz:Nat}{l:List T}:zaH sz 0 l=[]:=rfl
@[go_sem] theorem zAE{sz n:Nat}{l:List T}:zaH sz (n+1) l=l.take sz::zaH sz n (l.drop sz):=rfl
@[go_sem] theorem zBt{n:Nat}{cs:List C}:zhO n (.agg cs)=(n<=cs.length):=rfl
@[go_sem] theorem zzI{cs:List C}:ze4 (.agg cs)=cs:=rfl
attribute [go_sem] Yq zjs zcU
end
end Go.Abs
namespace Go.Abs
open Go
section
variable {P:Program} {σ:St} {t:TV}
@[go_sem] theorem zBu{r:ResultVar}:zc5 P [r] t .ret σ=(zak P σ r/\FzA σ.H (zaV P σ r) t):=by simp[zc5,zb6]
@[go_sem] theorem zBv{r r':ResultVar}:zc5 P [r,r'] t .ret σ=((zak P σ r/\zak P σ r')/\FzA σ.H (.tup [zaV P σ r,zaV P σ r']) t):=by simp[zc5,zb6]
@[go_sem] theorem zBw{r r' r'':ResultVar}:zc5 P [r,r',r''] t .ret σ=((zak P σ r/\zak P σ r'/\zak P σ r'')/\FzA σ.H (.tup [zaV P σ r,zaV P σ r',zaV P σ r'']) t):=by simp[zc5,zb6]
@[go_sem] theorem zBx{n:Nat}:zak P σ (.tmp n)=True:=rfl
@[go_sem] theorem zAF{a:Nat}{ty:TypeId}:zak P σ (.cell a ty)=(tok P ty=true/\(ZL σ.H (σ.s a)).isSome=true/\(if tagg P ty then tsize P ty else 1)<=((ZL σ.H (σ.s a)).getD []).length):=rfl
@[go_sem] theorem zCH{n:Nat}:zaV P σ (.tmp n)=σ.s n:=rfl
@[go_sem] theorem zBy{a:Nat}{ty:TypeId}:zaV P σ (.cell a ty)=(if tagg P ty then .agg (((ZL σ.H (σ.s a)).getD []).take (tsize P ty))else .one (((ZL σ.H (σ.s a)).getD []).headD default)):=rfl
theorem zgz{H:QE}:∀ (t:TV),FzA H (emb t) t
 |.one x=>.one .t
 |.agg xs=>.agg (by simp) fun j h h'=>by simp only[Qq];exact .t
 |.ip _=>.ip
 |.tup xs=>.tup (by rw[zgS]) fun j h h'=>by rw[zhd xs j h h'];exact zgz _
decreasing_by have:=wcY (Qf h');simp only[TV.tup.sizeOf_spec];omega
theorem zra{H:QE}{x:AV}(h:x=emb t):FzA H x t:=h▸zgz t
@[go_sem] theorem zDC{H:QE}{b b':Bool}:FzA H (QO b) (.one (.lit (.bool b')))=(b=b'):=by
 refine propext ⟨fun h=>?_,fun h=>h▸zgz (.one (.lit (.bool b)))⟩;cases h with|one h=>cases h;rfl
@[go_sem] theorem fz_int{H:QE}{k:IntKind}{n n':Int}:FzA H (litI k n) (.one (.lit (.int k n')))=(n=n'):=by
 refine propext ⟨fun h=>?_,fun h=>h▸zgz (.one (.lit (.int k n)))⟩;cases h with|one h=>cases h;rfl
end
@[go_sem] theorem beqT(b:Bool):(b==true)=b:=by cases b<;>rfl
@[go_sem] theorem beqF(b:Bool):(b==false)=!b:=by cases b<;>rfl
attribute [go_sem] wat waL List.getD_cons_zero List.getD_cons_succ List.getD_nil Option.isSome_some waX wcG wd1 wdl Qt Qy Qv if_true if_false
 wcf List.drop_succ_cons List.drop_nil wcZ was List.headD_cons Qe Qi decide_true decide_false wb9 wbw wak Qm
 wc0 wcX waA implies_true false_implies waN wa3 wba Bool.true_eq_false wap waT wdm wai
attribute [go_sem] emb emb.embs Bool.true_beq Bool.false_beq Bool.not_not wdp wd2 wbD wd3
theorem GStep.refl(σ:St):GStep σ σ:=fun ρ ok _ w h=>⟨ρ,ok,h,Goes.refl ρ ok w⟩
theorem GStep.trans{σ σ₁ σ₂:St}(h:GStep σ σ₁)(h':GStep σ₁ σ₂):GStep σ σ₂:=fun ρ ok a w hs=>by
 obtain⟨ρ₁,ok₁,s₁,g₁⟩:=h ρ ok a w hs;obtain⟨ρ₂,ok₂,s₂,g₂⟩:=h' ρ₁ ok₁ a w s₁;exact⟨ρ₂,ok₂,s₂,g₁.trans g₂⟩
theorem zqs{P:Program}{ops:Array Oper}{Q:St->Prop}{σ σ':St}(hg:GStep σ σ')(h:zfU P ops Q σ'):zfU P ops Q σ:=by
 rcases h with h|h
 .obtain⟨m,bl,σ1,h0,h1,h2,h3⟩:=h
  exact .inl ⟨m,bl,σ1,hg.trans h0,h1,h2,h3⟩
 .exact .inr (h.weaken hg)
def ZA(D:List Nat):C->Bool
 |.t _=>true
 |.ptr b _=>D.contains b
 |.vec b _ _ _=>D.contains b
 |.fn _ caps=>caps.all fun p=>D.contains p.1
def zbU(D:List Nat):AV->Bool
 |.one c=>ZA D c
 |.agg cs=>cs.all (ZA D)
 |.iptr _=>true
 |.tup []=>true
 |.tup _=>false
 |.junk=>true
theorem RC.keep{w:World}{ok:Nat->Prop}{ρ:Nat->Option Nat}{D:List Nat}{c:C}{v:Value}(h:RC w ok ρ c v)(hr:ZA D c=true):RC w ok (fun b=>if b∈D then ρ b else none) c v:=by
 cases h with
 |t h=>exact .t h
 |ptr h=>simp only[ZA,waH]at hr;exact .ptr (by rw[Qc hr];exact h)
 |vec h h1 h2 h3=>simp only[ZA,waH]at hr;exact .vec (by rw[Qc hr];exact h) h1 h2 h3
 |fn h h1 =>
  refine .fn h fun i hi Y6=>?_
  obtain⟨c,h2,h3⟩:=h1 i hi Y6;simp only[ZA,wac,waH]at hr;exact⟨c,by rw[Qc (hr _ (Qf hi))];exact h2,h3⟩
theorem RA.keep{w:World}{ok:Nat->Prop}{ρ:Nat->Option Nat}{D:List Nat}{x:AV}{v:Value}(h:RA w ok ρ x v)(hr:zbU D x=true):RA w ok (fun b=>if b∈D then ρ b else none) x v:=by
 cases h with
 |one h=>exact .one (h.keep hr)
 |agg h h1 =>
  simp only[zbU,wac]at hr;exact .agg h fun j hj Y2=>(h1 j hj Y2).keep (hr _ (Qf hj))
 |iptr h1 h2 h3=>exact .iptr h1 h2 h3
 |@tup xs vs h h1 =>
  cases xs with
  |nil=>exact .tup h fun j hj=>by simp at hj
  |cons _ _=>simp[zbU]at hr
 |junk=>exact .junk
def zcX:List (Nat×AV)->Nat->AV
 |[],_=>.junk
 |(k,v)::l,t=>if t=k then v else zcX l t
def Q9:List (Nat×List C)->Nat->Option (List C)
 |[],_=>none
 |(k,v)::l,t=>if t=k then some v else Q9 l t
def stL(n:Nat)(l:List (Nat×AV))(h:List (Nat×List C)):St:=⟨n,zcX l,Q9 h⟩
@[go_sem] theorem stL_n{n:Nat}{l:List (Nat×AV)}{h:List (Nat×List C)}:(stL n l h).n=n:=rfl
@[go_sem] theorem zri{n t:Nat}{l:List (Nat×AV)}{h:List (Nat×List C)}:(stL n l h).s t=zcX l t:=rfl
@[go_sem] theorem stL_H{n:Nat}{l:List (Nat×AV)}{h:List (Nat×List C)}:(stL n l h).H=Q9 h:=rfl
@[go_sem] theorem zBA{t:Nat}:zcX [] t = .junk:=rfl
@[go_sem] theorem zAG{k t:Nat}{v:AV}{l:List (Nat×AV)}:zcX ((k,v)::l) t=if t=k then v else zcX l t:=rfl
@[go_sem] theorem zBB{t:Nat}:Q9 [] t=none:=rfl
@[go_sem] theorem zfZ{k t:Nat}{v:List C}{l:List (Nat×List C)}:Q9 ((k,v)::l) t=if t=k then some v else Q9 l t:=rfl
def zgM(σ:St):List (Nat×AV)->Prop
 |[]=>True
 |(k,v)::l=>(σ.s k=v\/v = .junk)/\zgM σ l
def ZB(σ:St):List (Nat×List C)->Prop
 |[]=>True
 |(k,v)::l=>σ.H k=some v/\ZB σ l
def zhS(D:List Nat):List (Nat×AV)->Bool
 |[]=>true
 |(_,v)::l=>zbU D v&&zhS D l
def QT(D:List Nat):List (Nat×List C)->Bool
 |[]=>true
 |(_,v)::l=>v.all (ZA D)&&QT D l
theorem zgM.look{σ:St}:∀ {l:List (Nat×AV)},zgM σ l->∀ t,zcX l t = .junk\/zcX l t=σ.s t
 |[],_,t=>.inl rfl
 |(k,v)::l,h,t=>by
  unfold zcX;split
  .rename_i e;subst e
   rcases h.1 with h1|h1
   .exact .inr h1.symm
   .exact .inl h1
  .exact zgM.look h.2 t
theorem ZB.look{σ:St}:∀ {l:List (Nat×List C)},ZB σ l->∀ b cs,Q9 l b=some cs->σ.H b=some cs/\b∈l.map (·.1)
 |[],_,t=>fun cs h=>by cases h
 |(k,v)::l,h,t=>fun cs hl=>by
  unfold Q9 at hl;split at hl
  .rename_i e;subst e;cases hl;exact⟨h.1,by simp⟩
  .have:=ZB.look h.2 t cs hl;exact⟨this.1,by simp[this.2]⟩
theorem zm9{D:List Nat}:∀ {l:List (Nat×AV)},zhS D l=true->∀ t,zbU D (zcX l t)=true
 |[],_,_=>rfl
 |(k,v)::l,h,t=>by
  simp only[zhS,waj]at h;unfold zcX;split
  .exact h.1
  .exact zm9 h.2 t
theorem zkm{D:List Nat}:∀ {l:List (Nat×List C)},QT D l=true->∀ b cs,Q9 l b=some cs->∀ c∈cs,ZA D c=true
 |[],_,_=>fun cs h=>by cases h
 |(k,v)::l,h,t=>fun cs hl=>by
  simp only[QT,waj,wac]at h;unfold Q9 at hl;split at hl
  .cases hl;exact h.1
  .exact zkm h.2 t cs hl
theorem ziA:∀ {l:List (Nat×List C)} {b:Nat},b∈l.map (·.1)->∃ cs,Q9 l b=some cs
 |(k,v)::l,b,h=>by
  unfold Q9;split
  .exact⟨v,rfl⟩
  .rename_i hne
   simp only[wat,wad]at h;rcases h with h|h
   .exact Qn h hne
   .exact ziA h
theorem Q6{σ:St}{n:Nat}{l:List (Nat×AV)}{h:List (Nat×List C)}(hn:σ.n=n)(hs:zgM σ l)(hh:ZB σ h)(hr:zhS (h.map (·.1)) l=true)(J8:QT (h.map (·.1)) h=true):GStep σ (stL n l h):=by
 intro ρ ok a w s;refine⟨fun b=>if b∈h.map (·.1)then ρ b else none,ok,⟨⟨fun b cs hb=>?_,fun b hb=>?_,fun b b' c h1 h2=>?_,fun n hn=>⟨(s.okR n hn).1,fun b hb=>?_⟩⟩,by rw[s.size];exact hn,fun t=>?_,s.defers,by have:=s.small;rw[hn]at this;exact this⟩,⟨Qd _,fun _ _ _=>rfl,fun _ _ _ h=>h,fun b n hb=>?_,fun _ h=>h,fun _ h=>.inl h,fun b _=>by show(if _ then _ else _)=_\/(if _ then _ else _)=_;split<;>simp,⟨rfl,rfl⟩⟩⟩
 .obtain⟨k1,k2⟩:=hh.look b cs hb
  obtain⟨c,arr,el,h1,h2,h3,h4⟩:=s.heap b cs k1;refine⟨c,arr,el,by simp only[k2,if_true];exact h1,h2,h3,fun j hj Y2=>(h4 j hj Y2).keep (zkm J8 b cs hb _ (Qf hj))⟩
 .split
  .rename_i hm
   obtain⟨cs,YN⟩:=ziA hm;have hb':Q9 h b=none:=hb;rw[YN]at hb';cases hb'
  .rfl
 .split at h1
  .split at h2
   .exact s.inj b b' c h1 h2
   .cases h2
  .cases h1
 .split at hb
  .exact(s.okR n hn).2 b hb
  .cases hb
 .rcases hs.look t with h1|h1
  .rw[zri,h1];exact .junk
  .have:=s.slots t
   have hk:=zm9 hr t;rw[zri,h1]at *
   exact this.keep hk
 .split at hb
  .exact .inl ⟨b,hb⟩
  .cases hb
@[go_sem] theorem zwt{D:List Nat}{x:T}:ZA D (.t x)=true:=rfl
@[go_sem] theorem zBC{D:List Nat}{b o:Nat}:ZA D (.ptr b o)=D.contains b:=rfl
@[go_sem] theorem ztl{D:List Nat}{b s o n:Nat}:ZA D (.vec b s o n)=D.contains b:=rfl
@[go_sem] theorem zCO{D:List Nat}{f:FuncId}{caps:List (Nat×Nat)}:ZA D (.fn f caps)=caps.all fun p=>D.contains p.1:=rfl
@[go_sem] theorem zBD{D:List Nat}{c:C}:zbU D (.one c)=ZA D c:=rfl
@[go_sem] theorem zBE{D:List Nat}{cs:List C}:zbU D (.agg cs)=cs.all (ZA D):=rfl
@[go_sem] theorem zAH{D:List Nat}{cs:List T}:zbU D (.iptr cs)=true:=rfl
@[go_sem] theorem zAI{D:List Nat}:zbU D (.tup [])=true:=rfl
@[go_sem] theorem zz4{D:List Nat}:zbU D undefA=true:=rfl
@[go_sem] theorem zAJ{D:List Nat}:zbU D .junk=true:=rfl
@[go_sem] theorem zAK{D:List Nat}{k:IntKind}{n:Int}:zbU D (litI k n)=true:=rfl
@[go_sem] theorem zAL{D:List Nat}{b:Bool}:zbU D (QO b)=true:=rfl
attribute [go_sem] zgM ZB zhS QT wdS List.contains_nil wdV List.all_nil wdy wc4 Bool.true_or wcb
theorem ziB{K K':St->Prop}{Q Q':Exit->St->Prop}(hK:∀ σ,K σ->K' σ)(hQ:∀ e σ,Q e σ->Q' e σ):∀ e σ,zcp K Q e σ->zcp K' Q' e σ:=by
 intro e σ h;cases e<;>first|exact hK _ h|exact hQ _ _ h
theorem ZM.mono{P:Program}{m:Nat}{f:FuncId}{as:List AV}{σ:St}{K K':AV->St->Prop}(hK:∀ v σ,K v σ->K' v σ)(h:ZM P m f as σ K):ZM P m f as σ K':=by
 rw[znE]at h ⊢;obtain⟨v,τ,h1,h2⟩:=h;exact⟨v,τ,h1,hK _ _ h2⟩
theorem zmY{P:Program}{m:Nat}{ops:Array Oper}{q q':St->Prop}(hq:∀ σ,q σ->q' σ):∀ (l:List Oper) (σ:St),Ye P m ops.toList q l σ->Ye P m ops.toList q' l σ:=by
 intro l
 induction l with
 |nil=>intro σ h;exact hq σ h
 |cons o l ih =>
  intro σ h;rw[zgW]at h ⊢;obtain⟨σ',h1,h2⟩:=h;exact⟨σ',h1,ih σ' h2⟩
theorem zoo{P:Program}:∀ (c:Code) (Q Q':Exit->St->Prop),(∀ e σ,Q e σ->Q' e σ)->∀ σ,wpA P c Q σ->wpA P c Q' σ:=by
 intro c
 induction c with
 |skip=>intro Q Q' hq σ h;exact hq _ _ h
 |region id ops draw =>
  intro Q Q' hq σ h;simp only[wpA]at h ⊢;split at h
  .rename_i hd;rw[Qc hd]
   rcases h with h|h
   .obtain⟨m,bl,σ',h0,h1,hg,h2⟩:=h
    exact .inl ⟨m,bl,σ',h0,h1,hg,zmY (hq _) _ _ h2⟩
   .exact .inr (h.mono (hq _))
  .rename_i hd;rw[Qb hd];exact zmY (hq _) _ _ h
 |seq x y ihx ihy=>intro Q Q' hq σ h;exact ihx _ _ (ziB (fun σ=>ihy _ _ hq σ) hq) σ h
 |cond c x y ihx ihy =>
  intro Q Q' hq σ h;simp only[wpA,BR]at h ⊢;split at h
  .exact ihx _ _ hq σ h
  .exact ihy _ _ hq σ h
  .exact h.elim
 |block id c ih =>
  intro Q Q' hq σ h;refine ih _ _ ?_ σ h;intro e σ h;cases e<;>simp only[zfC]at h ⊢<;>first|exact hq _ _ h|(split at h<;>rename_i hi<;>first|(rw[Qc hi];exact hq _ _ h)|(rw[Qb hi];exact hq _ _ h))
 |loop c ih =>
  intro Q Q' hq σ h;obtain⟨k,h⟩:=h;refine⟨k,?_⟩
  induction k generalizing σ with
  |zero=>exact h.elim
  |succ k ihk =>
   obtain⟨σ',h1,h2⟩:=h;exact⟨σ',h1,ih _ _ (ziB (fun σ=>ihk σ) hq) σ' h2⟩
 |exit id=>intro Q Q' hq σ h;exact hq _ _ h
 |ret=>intro Q Q' hq σ h;exact hq _ _ h
 |_=>intro Q Q' hq σ h;exact h
theorem zop{P:Program}{c:Code}{Q:Exit->St->Prop}:∀ (k:Nat) (σ:St),zdv (wpA P c) Q k σ->zdv (wpA P c) Q (k+1) σ
 |0,_,h=>h.elim
 |k+1,_,⟨σ',h1,h2⟩=>⟨σ',h1,zoo c _ _ (ziB (zop k) fun _ _ h=>h) σ' h2⟩
theorem zuI{P:Program}{c:Code}{Q:Exit->St->Prop}{k k':Nat}(hk:k<=k'){σ:St}(h:zdv (wpA P c) Q k σ):zdv (wpA P c) Q k' σ:=by
 obtain⟨d,rfl⟩:=Nat.exists_eq_add_of_le hk
 induction d with
 |zero=>exact h
 |succ d ih=>exact zop _ _ (ih (Nat.le_add_right _ _))
theorem zpw{B:(Exit->St->Prop)->St->Prop}{Q:Exit->St->Prop}{k:Nat}{σ σ':St}(hg:GStep σ σ')(h:zdv B Q k σ'):zdv B Q k σ:=by
 cases k with
 |zero=>exact h.elim
 |succ k=>obtain⟨σ₁,h1,h2⟩:=h;exact⟨σ₁,hg.trans h1,h2⟩
def zyZ{ι:Type}(I:ι->Prop)(μ:ι->Nat)(f:ι->St)(x:ι)(s:St):Prop:=∃ y,I y/\μ y<μ x/\GStep s (f y)
theorem QJ{P:Program}{c:Code}{Q:Exit->St->Prop}{σ:St}{ι:Type}(f:ι->St)(I:ι->Prop)(μ:ι->Nat)(x₀:ι)(h₀:GStep σ (f x₀))(hI:I x₀)
  (step:∀ x,I x->wpA P c (zcp (zyZ I μ f x) Q) (f x)):zmz (wpA P c) Q σ:=by
 have key:∀ (n:Nat) (x:ι),μ x=n->I x->zdv (wpA P c) Q (n+1) (f x):=by
  intro n
  induction n using Nat.strongRecOn with
  |_ n ih =>
   intro x hx OI;refine⟨f x,GStep.refl _,zoo c _ _ (ziB (fun s=>?_) fun _ _ h=>h) _ (step x OI)⟩;rintro⟨y,OJ,Y1,hg⟩;exact zpw hg (zuI (by omega) (ih (μ y) (by omega) y rfl OJ))
 exact⟨_,zpw h₀ (key _ x₀ rfl hI)⟩
def eL{α:Type}(f:α->List T)(xs:List α):T:=.seq none (xs.map f)
def QP{α:Type}(f:α->List T)(xs:List α)(i:Nat):List T:=(xs.map f).getD i []
section
variable {P:Program} {α:Type} {f:α->List T} {xs:List α}
@[go_sem] theorem zCR:(AV.one (.t (eL f xs))).lenOf=some xs.length:=by simp[eL,AV.lenOf]
@[go_sem] theorem zCS{t:TypeId}:zcj P t (.one (.t (eL f xs)))=(isSliceD (tdesc P t)=true):=by simp[eL,zcj,AV.lenOf]
@[go_sem] theorem zCT{sz i:Nat}:zcC sz (.one (.t (eL f xs))) i = .iptr (QP f xs i):=rfl
@[go_sem] theorem zBJ{sz i:Nat}:zd2 sz (.one (.t (eL f xs))) i=∀ x∈xs,(f x).length=sz:=by simp[eL,zd2]
@[go_sem] theorem zCU{i:AV}:zfG (.one (.t (eL f xs))) i=zaE i xs.length:=by simp[eL,zfG,AV.lenOf]
@[go_sem] theorem zBK{sz lo hi:Nat}:zcT sz (.one (.t (eL f xs))) lo hi = .one (.t (eL f ((xs.take hi).drop lo))):=by simp[eL,zcT,List.map_drop]
@[go_sem] theorem zAP{t:TypeId}:zey P t (.one (.t (eL f xs)))=(isSliceD (tdesc P t)=true/\tok P (telem P t)=true/\∀ x∈xs,(f x).length=tsize P (telem P t)):=by simp[eL,zey,zhs]
@[go_sem] theorem zDG{l h n:Nat}:zfQ (.one (.t (eL f xs))) (some l) (some h) n=(l<=h/\h<=n):=by simp[zfQ]
@[go_sem] theorem zCV{op:BinOp}:zd7 op (.one (.t (eL f xs)))=True:=rfl
@[go_sem] theorem zCW{t:TypeId}:zcY P t (.one (.t (eL f xs)))=(tok P t=true/\isSliceD (tdesc P t)=true):=rfl
theorem Q8{i:Nat}(h:i<xs.length):QP f xs i=f xs[i]:=by simp[QP,h]
@[go_sem] theorem zzJ{x:T}:zbc (.one (.t x))=false:=rfl
theorem zx6{H:QE}{nl:Option Bool}{ys:List (List T)}(h:ys=xs.map f):FzA H (.one (.t (.seq nl ys))) (.one (eL f xs)):=by subst h;exact .one .weak
theorem Yk{H:QE}:FzA H (.one (.t (eL f xs))) (.one (eL f xs)):=.one .t
end
@[go_sem] theorem castZ:((0:Nat):Int)=0:=rfl
@[go_sem] theorem castS{n:Nat}:((n+1:Nat):Int)=(n:Int)+1:=by omega
@[go_sem] theorem castL{n:Nat}:((OfNat.ofNat n:Nat):Int)=OfNat.ofNat n:=rfl
attribute [go_sem] wbB Int.ofNat_eq_natCast
theorem Q4{n:Int}(h : -9223372036854775808<=n)(h':n<=9223372036854775807):IntKind.i64.wrap n=n:=IntWalk.i64_in _ ⟨h,h'⟩
theorem QC{n:Int}(h:0<=n)(h':n<18446744073709551616):IntKind.u64.wrap n=n:=by
 simp[IntKind.wrap,IntKind.bits,IntKind.signed];omega
theorem QD{n:Int}(h:0<=n)(h':n<4294967296):IntKind.u32.wrap n=n:=by
 simp[IntKind.wrap,IntKind.bits,IntKind.signed];omega
def jC(b:Nat):C->C
 |.ptr b' o=>if b'=b then .t .junk else .ptr b' o
 |.vec b' s o n=>if b'=b then .t .junk else .vec b' s o n
 |.fn f caps=>if caps.any (fun p=>p.1==b)then .t .junk else .fn f caps
 |.t x=>.t x
def jA(b:Nat):AV->AV
 |.one c=>.one (jC b c)
 |.agg cs=>.agg (cs.map (jC b))
 |.iptr cs=>.iptr cs
 |.tup []=>.tup []
 |_=>.junk
def St.renew(σ:St)(b:Nat)(new:List C):St:=⟨σ.n,fun t=>jA b (σ.s t),fun n=>if n=b then some new else(σ.H n).map (·.map (jC b))⟩
@[go_sem] theorem zD8{σ:St}{b:Nat}{new:List C}:(σ.renew b new).n=σ.n:=rfl
@[go_sem] theorem zgp{σ:St}{b t:Nat}{new:List C}:(σ.renew b new).s t=jA b (σ.s t):=rfl
@[go_sem] theorem zbl{σ:St}{b n:Nat}{new:List C}:(σ.renew b new).H n=if n=b then some new else(σ.H n).map (·.map (jC b)):=rfl
@[go_sem] theorem jA_one{b:Nat}{c:C}:jA b (.one c) = .one (jC b c):=rfl
@[go_sem] theorem jA_agg{b:Nat}{cs:List C}:jA b (.agg cs) = .agg (cs.map (jC b)):=rfl
@[go_sem] theorem zD9{b:Nat}{cs:List T}:jA b (.iptr cs) = .iptr cs:=rfl
@[go_sem] theorem zEa{b:Nat}:jA b .junk = .junk:=rfl
@[go_sem] theorem zDi{b:Nat}:jA b undefA=undefA:=rfl
@[go_sem] theorem zEb{b:Nat}{k:IntKind}{n:Int}:jA b (litI k n)=litI k n:=rfl
@[go_sem] theorem zEc{b:Nat}{x:Bool}:jA b (QO x)=QO x:=rfl
@[go_sem] theorem jC_t{b:Nat}{x:T}:jC b (.t x) = .t x:=rfl
@[go_sem] theorem jC_ptr{b b' o:Nat}:jC b (.ptr b' o)=if b'=b then .t .junk else .ptr b' o:=rfl
@[go_sem] theorem jC_vec{b b' s o n:Nat}:jC b (.vec b' s o n)=if b'=b then .t .junk else .vec b' s o n:=rfl
theorem RC.junked{w:World}{ok:Nat->Prop}{ρ ρ':Nat->Option Nat}{b:Nat}{c:C}{v:Value}(h:RC w ok ρ c v)(hρ:∀ b' n,b'≠b->ρ b'=some n->ρ' b'=some n):RC w ok ρ' (jC b c) v:=by
 have YT:=h.oneCell;cases h with
 |t h=>exact .t h
 |ptr h =>
  simp only[jC];split
  .exact .t (.junk YT)
  .exact .ptr (hρ _ _ ‹_› h)
 |vec h h1 h2 h3 =>
  simp only[jC];split
  .exact .t (.junk YT)
  .exact .vec (hρ _ _ ‹_› h) h1 h2 h3
 |fn h h1 =>
  simp only[jC];split
  .exact .t (.junk YT)
  .rename_i hn
   refine .fn h fun i hi Y6=>?_
   obtain⟨c,h2,h3⟩:=h1 i hi Y6;refine⟨c,hρ _ _ ?_ h2,h3⟩;intro e;exact hn (wbm.2 ⟨_,Qf hi,by simp[e]⟩)
theorem RA.junked{w:World}{ok:Nat->Prop}{ρ ρ':Nat->Option Nat}{b:Nat}{x:AV}{v:Value}(h:RA w ok ρ x v)(hρ:∀ b' n,b'≠b->ρ b'=some n->ρ' b'=some n):RA w ok ρ' (jA b x) v:=by
 cases h with
 |one h=>exact .one (h.junked hρ)
 |agg h h1=>exact .agg (by simpa using h) fun j hj Y2=>by simp only[Qq];exact(h1 j (by simpa using hj) Y2).junked hρ
 |iptr h1 h2 h3=>exact .iptr h1 h2 h3
 |@tup xs vs h h1 =>
  cases xs with
  |nil=>exact .tup h fun j hj=>by simp at hj
  |cons _ _=>exact .junk
 |junk=>exact .junk
section
variable {P:Program} {ρ:Nat->Option Nat} {ok:Nat->Prop} {σ:St} {a:Act} {w w₀:World}
theorem zg6{w w':World}(h:w'.heap=w.heap)(a:Addr):w'.cell? a=w.cell? a:=by simp only[World.cell?,h]
theorem zdB{sz:Nat}:∀ {l:List (List T)},(∀ x∈l,x.length=sz)->l.flatten.length=l.length*sz
 |[],_=>by simp
 |x::l,h=>by simp[-List.length_flatten,zdB (l:=l) fun y hy=>h y (by simp[hy]),h x (by simp),wa1];omega
theorem zgY{sz:Nat}(Kl:0<sz):∀ {l:List (List T)},(∀ x∈l,x.length=sz)->∀ j (hj:j<l.flatten.length),∃ (hi:j/sz<l.length) (hk:j%sz<l[j/sz].length),l.flatten[j]=l[j/sz][j%sz]
 |[],_,j,hj=>by simp at hj
 |x::l,hl,j,hj=>by
  have Uz:=hl x (by simp);by_cases Lo:j<sz
  .have e1:j/sz=0:=wbp Lo
   have e2:j%sz=j:=wbv Lo;refine⟨by simp[e1],by simp[e1,e2,Uz,Lo],?_⟩;simp only[wbC,e1,e2,wcI];rw[wby (by omega)]
  .have e1:j/sz=(j-sz)/sz+1:=by rw[Nat.div_eq_sub_div Kl (by omega)]
   have e2:j%sz=(j-sz)%sz:=Nat.mod_eq_sub_mod (by omega);obtain⟨h1,h2,h3⟩:=zgY Kl (l:=l) (fun y hy=>hl y (by simp[hy])) (j-sz) (by have:=hj;simp only[wbC,Qj,Uz]at this;omega);refine⟨by simp[e1];exact h1,by simp only[e1,e2,wcJ];exact h2,?_⟩;simp only[wbC,e1,e2,wcJ];rw[wbH (by omega)];simp only[Uz];exact h3
theorem znH{nl:Option Bool}{xs:List (List T)}{v:Value}(h:RA w ok ρ (.one (.t (.seq nl xs))) v){sz:Nat}(XF:∀ x∈xs,x.length=sz) :
  ∃ A c,∃ vs:Array Value,v = .slice A xs.length c/\(∀ w',w'.heap=w.heap->(Builtin.firstCells sz xs.length v).run P w' = .ok vs w')/\vs.size=xs.flatten.length/\∀ j (hj:j<xs.flatten.length) (Y2:j<vs.size),RT w ok xs.flatten[j] vs[j]:=by
 obtain⟨A,c,sz',blk,off,u,rfl,g2,g0,g3,g4,g5,g6,g7,g8⟩:=h.seq_inv2;by_cases hx:xs.length*sz=0
 .have Xz:xs.flatten.length=0:=by rw[zdB XF];exact hx
  refine⟨A,c,#[],rfl,fun w' _=>?_,by rw[Xz];rfl,fun j hj=>by omega⟩;cases A with
  |none=>rfl
  |some ad =>
   unfold Builtin.firstCells;simp only[hx];rfl
 .have Km:xs≠[]:=by rintro rfl;simp at hx
  have Kl:0<sz:=wbG fun e=>hx (by rw[e,waV])
  obtain⟨k1,k2⟩:=g6 Km;have WB:sz'=sz:=by
   cases xs with
   |nil=>exact Qn rfl Km
   |cons y ys=>rw[<-g5 y (by simp),<-XF y (by simp)]
  subst WB;subst k1;refine⟨_,c,((List.range (xs.length*sz')).map fun j=>u (j/sz') (j%sz')).toArray,rfl,fun w' UQ=>?_,by simp[-List.length_flatten,zdB XF],fun j hj Y2=>?_⟩
  .unfold Builtin.firstCells
   simp only[];refine zeU _ fun j hj=>?_
   obtain⟨h1,h2,h3⟩:=zgY Kl XF j (by rw[zdB XF];exact hj);have:=g7 _ h1 _ h2;rw[show j/sz'*sz'+j%sz'=j by rw[Qu];exact wcn j sz']at this;rw[zg6 UQ];exact this
  .simp only[wcj,Qq,wc7]
   obtain⟨h1,h2,h3⟩:=zgY Kl XF j hj;rw[h3];exact g8 _ h1 _ h2
theorem zni{q:Question}(hq:q.forced=false):(choose q).run P w = .ok (q.cut (w.tape w.drawn q)) { w with drawn:=w.drawn+1 }:=by
 simp[choose,Sem.run,hq]
theorem zeh{o:Oper}{x y:Operand}{t t':TypeId}(ho:o.op = .call { callee:=.builtin .append,args:=#[x,y],argTypes:=#[t,t'] }){v:Value}{w':World}
  (h:(Builtin.append_ #[t,t'] o.type #[a.eval x,a.eval y]).run P w = .ok v w'):(execOp a.eval o).run P w = .ok (.value v) w':=by
 simp only[execOp,ho,resolve,Sem.run_bind,Sem.run_pure,Result.andThen,wcR,wat,waL];unfold invoke builtin;simp only[];exact Yx h
theorem znI{t t' ty:TypeId}{A':Option Addr}{c0 off n c n' c':Nat}(h1:tok P t=true)(h2:isSliceD (tdesc P t)=true)(h3:tok P (telem P t)=true)(h4:tok P t'=true)(h5:isSliceD (tdesc P t')=true)
  (hc:n+n'<=c) {new:Array Value} (XR:(Builtin.firstCells (tsize P (telem P t)) n' (.slice A' n' c')).run P w = .ok new w) {w':World} (YM:(storeCells ⟨c0,off+n*tsize P (telem P t),none⟩ new.toList 0).run P w = .ok () w') :
  (Builtin.append_ #[t,t'] ty #[.slice (some ⟨c0,off,none⟩) n c,.slice A' n' c']).run P w = .ok (.slice (some ⟨c0,off,none⟩) (n+n') c) w':=by
 unfold Builtin.append_;simp only[waZ,wa0,wa6];rw[Sem.run_bind,ZE h1,zaM h2];simp only[Result.andThen];rw[Sem.run_bind,zaB h3];simp only[Result.andThen];rw[Sem.run_bind,ZE h4,zaM h5];simp only[Result.andThen];rw[Sem.run_bind];simp only[Result.andThen,Sem.run_pure,wa3,if_false,Builtin.lenOf];rw[Sem.run_bind];simp only[Sem.run_pure,Result.andThen,wcX,if_true];rw[Qc hc,Sem.run_bind,XR];simp only[Result.andThen];rw[Sem.run_bind,zcK,YM];rfl
theorem ziu{t t' ty:TypeId}{A A':Option Addr}{n c n' c':Nat}(h1:tok P t=true)(h2:isSliceD (tdesc P t)=true)(h3:tok P (telem P t)=true)(h4:tok P t'=true)(h5:isSliceD (tdesc P t')=true)
  (hc:c<n+n') (hb:(n+n')*tbytes P (telem P t)<=2^47) (V8:0<tbytes P (telem P t)) {z:Value} (hz:(P.info? (telem P t)).bind (·.zero)=some z) {old new:Array Value} (Uu:∀ w,w.heap=w₀.heap->(Builtin.firstCells (tsize P (telem P t)) n (.slice A n c)).run P w = .ok old w)
  (XR:∀ w,w.heap=w₀.heap->(Builtin.firstCells (tsize P (telem P t)) n' (.slice A' n' c')).run P w = .ok new w) (hw:w.heap=w₀.heap) :
  ∃ (k:Nat) (rest:Array Value),n+n'<=k/\rest.size=(k-(n+n'))*z.cells.size/\(Builtin.append_ #[t,t'] ty #[.slice A n c,.slice A' n' c']).run P w =
   .ok (.slice (some ⟨w.heap.size,0,none⟩) (n+n') k) { w with heap:=w.heap.push (.cells (old++new++rest) (telem P t)),drawn:=w.drawn+1 }:=by
 refine⟨(Question.appendCap (n+n') c (telem P t)).cut (w.tape w.drawn (Question.appendCap (n+n') c (telem P t))),Builtin.zeroCells z.cells ((Question.appendCap (n+n') c (telem P t)).cut (w.tape w.drawn (Question.appendCap (n+n') c (telem P t)))-(n+n')),?_,by simp[Builtin.zeroCells],?_⟩
 .simp only[Question.cut];omega
 .generalize hk:(Question.appendCap (n+n') c (telem P t)).cut (w.tape w.drawn (Question.appendCap (n+n') c (telem P t)))=k
  obtain⟨i,hi,JF⟩:=zei (w:=w) h3;have NQ:tbytes P (telem P t)=i.bytes:=by simp[tbytes,hi]
  unfold Builtin.append_;simp only[waZ,wa0,wa6];rw[Sem.run_bind,ZE h1,zaM h2];simp only[Result.andThen];rw[Sem.run_bind,zaB h3];simp only[Result.andThen];rw[Sem.run_bind,ZE h4,zaM h5];simp only[Result.andThen];rw[Sem.run_bind];simp only[Result.andThen,Sem.run_pure,wa3,if_false,Builtin.lenOf];rw[Sem.run_bind];simp only[Sem.run_pure,Result.andThen,wcX,if_true,false_or];rw[Qb (by omega),Sem.run_bind,JF];simp only[Result.andThen];rw[Qb (by rw[<-NQ];intro h;omega),Sem.run_bind,JF];simp only[Result.andThen];rw[Qb (by rw[<-NQ];have:=growslice_fits hc (by simpa using hb);simp at this ⊢;omega),Sem.run_bind,zni rfl,hk];simp only[Result.andThen];obtain⟨i',Y6,NR⟩:=zei (P:=P) (w:={ w with drawn:=w.drawn+1 }) h3;rw[Sem.run_bind,NR];simp only[Result.andThen];have Vp:∀ b:Nat,(askRoom b).run P { w with drawn:=w.drawn+1 } = .ok () { w with drawn:=w.drawn+1 }:=fun b=>by unfold askRoom;split<;>rfl
  rw[Sem.run_bind,Vp];simp only[Result.andThen];rw[Sem.run_bind,Uu { w with drawn:=w.drawn+1 } hw];simp only[Result.andThen];rw[Sem.run_bind,XR { w with drawn:=w.drawn+1 } hw];simp only[Result.andThen];rw[Sem.run_bind,zeg h3 hz];simp only[Result.andThen,newRow,newObj];rfl
theorem zpX{o:Oper}{d:Nat}{x y:Operand}{t t':TypeId}(ho:o.op = .call { callee:=.builtin .append,args:=#[x,y],argTypes:=#[t,t'] })(h1:tok P t=true)(h2:isSliceD (tdesc P t)=true)(h3:tok P (telem P t)=true)(h4:tok P t'=true)
  (h5:isSliceD (tdesc P t')=true) (hz:(tzero P (telem P t)).isSome=true) (Vo:((tzero P (telem P t)).getD []).length=tsize P (telem P t)) (V8:0<tbytes P (telem P t)) {nl:Option Bool} {ys:List (List T)} (hx:ev σ.s x = .one (.t (.seq (some true) []))) (hy:ev σ.s y = .one (.t (.seq nl ys))) (XF:∀ z∈ys,z.length=tsize P (telem P t))
  (hne:ys≠[]) (hb:ys.length*tbytes P (telem P t)<=2^47) (hd:σ.H d=none) (XE:d<PIN):zds P o σ (.one (.vec d (tsize P (telem P t)) 0 ys.length)) (σ.withH (upd σ.H d (some (ys.flatten.map .t)))):=by
 intro ρ ok a w h;obtain⟨z,hz⟩:=wbb.1 hz;rw[hz]at Vo;simp only[waX]at Vo;obtain⟨zv,UF,Wy⟩:=zc8 hz;have VJ:zv.cells.size=tsize P (telem P t):=by
  have:=(zca (w:=w) (ok:=ok) (ρ:=ρ) Wy).1;rw[<-Vo,this];simp
 have Y7:=Zm h x;have Xx:=Zm h y;rw[hx]at Y7;rw[hy]at Xx;obtain⟨A,c,KH,g2,g0,g3⟩:∃ A c,a.eval x = .slice A 0 c/\0<=c/\(A=none->c=0)/\A=none:=by
  generalize a.eval x=v at Y7;obtain⟨A,c,sz,blk,off,u,rfl,k2,k0,k3,_⟩:=Y7.seq_inv2;exact⟨A,c,rfl,k2,k0,k3 rfl⟩
 subst g3;obtain rfl:=g0 rfl;have YV:0<ys.length:=wbc.2 hne;obtain⟨A',c',vs,Uv,Vl,Uw,VD⟩:=znH (P:=P) Xx XF;have Xz:=zdB XF;rw[Uv]at Vl;obtain⟨k,rest,hk,Xt,Xe⟩:=ziu (P:=P) (w:=w) (w₀:=w) (ty:=o.type) (A:=none) (A':=A') (n:=0) (c:=0) (n':=ys.length) (c':=c') h1 h2 h3 h4 h5 (by omega) (by simpa using hb) V8 UF (old:=#[]) (fun w' _=>rfl) Vl rfl;rw[waT]at hk Xt Xe;obtain⟨s1,s2⟩:=h.push (d:=d) XE hd (cs:=ys.flatten.map .t) (arr:=#[]++vs++rest) (el:=telem P t) (by rw[Qm];simp only[wcw,wb2];omega) (fun j hj Y2=>by
  simp only[Qm]at hj;simp only[Qq,wcw];rw[wbN (by omega)];exact .t (VD j hj (by omega)))
 obtain⟨r1,r2⟩:=s1.drawn;refine⟨.slice (some ⟨w.heap.size,0,none⟩) ys.length k,_,_,_,zeh ho (by rw[KH,Uv];exact Xe),?_,r1,s2.trans r2⟩;refine .one (.vec (c:=w.heap.size) (n:=(#[]++vs++rest).size) (by simp[ext]) hk ⟨telem P t,by simp[World.shape?]⟩ ?_);simp only[wcw,wb2,waT];rw[Xt,Uw,Xz,VJ,<-war];exact wag _ (by omega)
theorem zpY{o:Oper}{b n:Nat}{x y:Operand}{t t':TypeId}(ho:o.op = .call { callee:=.builtin .append,args:=#[x,y],argTypes:=#[t,t'] })(h1:tok P t=true)(h2:isSliceD (tdesc P t)=true)(h3:tok P (telem P t)=true)(h4:tok P t'=true)
  (h5:isSliceD (tdesc P t')=true) (hz:(tzero P (telem P t)).isSome=true) (Vo:((tzero P (telem P t)).getD []).length=tsize P (telem P t)) (V8:0<tbytes P (telem P t)) {nl:Option Bool} {ys:List (List T)} {cs:List C} (hx:ev σ.s x = .one (.vec b (tsize P (telem P t)) 0 n)) (YN:σ.H b=some cs)
  (hn:cs.length=n*tsize P (telem P t)) (hy:ev σ.s y = .one (.t (.seq nl ys))) (XF:∀ z∈ys,z.length=tsize P (telem P t))
  (hb:(n+ys.length)*tbytes P (telem P t)<=2^47) (Wr:b<PIN):zds P o σ (.one (.vec b (tsize P (telem P t)) 0 (n+ys.length))) (σ.renew b (cs.map (jC b)++ys.flatten.map .t)):=by
 intro ρ ok a w h;obtain⟨z,hz⟩:=wbb.1 hz;rw[hz]at Vo;simp only[waX]at Vo;obtain⟨zv,UF,Wy⟩:=zc8 hz;have VJ:zv.cells.size=tsize P (telem P t):=by
  have:=(zca (w:=w) (ok:=ok) (ρ:=ρ) Wy).1;rw[<-Vo,this];simp
 have Y7:=Zm h x;have Xx:=Zm h y;rw[hx]at Y7;rw[hy]at Xx;obtain⟨c,cap,n0,hρb,KH,k2,k3,k4⟩:=Y7.vec_inv;obtain⟨A',c',vs,Uv,Vl,Uw,VD⟩:=znH (P:=P) Xx XF;have Xz:=zdB XF;rw[Uv]at Vl;obtain⟨cb,arr,el,e1,e2,e3,e4⟩:=h.heap b cs YN;rw[hρb]at e1;cases e1
 have Xu:n0=arr.size:=by
  obtain⟨el',hs⟩:=k3;simp[World.shape?,e2]at hs;exact hs.2.symm
 subst Xu;by_cases XZ:n+ys.length<=cap
 ·
  have Vp:n*tsize P (telem P t)+ys.length*tsize P (telem P t)<=arr.size:=by
   have:(n+ys.length)*tsize P (telem P t)<=cap*tsize P (telem P t):=wag _ XZ;rw[war]at this;omega
  have YT:∀ v∈vs.toList,zcF v=true:=fun v hv=>by
   obtain⟨j,hj,rfl⟩:=waQ.1 hv;have X7:j<vs.size:=by simpa using hj
   have:=(VD j (by omega) X7).oneCell;simpa using this
  obtain⟨w',arr',r1,r2,r3,r4,r5,r6,r7⟩:=zig (P:=P) (c:=c) (off:=n*tsize P (telem P t)) vs.toList 0 w arr e2 YT (by simp;omega);have hk:zah ok w w':=fun m hm=>r3 m (fun e=>(h.okR m hm).2 b (e▸hρb))
  have hs:∀ m el k,w.shape? m=some (el,k)->w'.shape? m=some (el,k):=fun m el' k V3=>by
   by_cases hm:m=c
   .subst hm;simp[World.shape?,e2]at V3;simp[World.shape?,r4,r5,V3]
   .simpa[World.shape?,r3 m hm]using V3
  have Xw:=znI (P:=P) (w:=w) (w':=w') (t:=t) (t':=t') (ty:=o.type) (A':=A') (c0:=c) (off:=0) (n:=n) (c:=cap) (n':=ys.length) (c':=c') h1 h2 h3 h4 h5 XZ (Vl w rfl) (by rw[waT];exact r1);refine⟨.slice (some ⟨c,0,none⟩) (n+ys.length) cap,w',ρ,ok,zeh ho (by rw[KH,Uv];exact Xw),.one (.vec hρb XZ (hs _ _ _ (by simp[World.shape?,e2];rfl) |> fun h=>⟨_,h⟩) k4),⟨⟨fun b' cs' hb'=>?_,fun b' hb'=>?_,h.inj,fun m hm=>⟨by rw[r2];exact(h.okR m hm).1,(h.okR m hm).2⟩⟩,h.size,fun t'=>?_,h.defers,h.small⟩,⟨by omega,fun m hm hb'=>r3 m (fun e=>hb' b (e▸hρb)),hs,fun b' m hb'=>.inl ⟨b',hb'⟩,fun _ h=>h,fun _ h=>.inl h,fun _ _=>.inl rfl,r7⟩⟩
  .simp only[zbl]at hb'
   split at hb'
   .subst b';cases hb'
    refine⟨c,arr',el,hρb,r4,by simp only[Qj,Qm];omega,fun j hj Y2=>?_⟩;have e6:=r6 j;simp only[wap]at e6;by_cases hjn:j<cs.length
    .rw[wby (by simpa using hjn)]
     rw[Qb (by omega),waY Y2,waY (by omega)]at e6;rw[wa2 e6];simp only[Qq];exact((e4 j hjn (by omega)).mono hk (fun _ h=>h) hs (fun _ _ h=>h)).junked (fun _ _ _ h=>h)
    .have Eb:j<cs.length+ys.flatten.length:=by have:=hj;simp only[Qj,Qm]at this;exact this
     have VC:n*tsize P (telem P t)<=j/\j<n*tsize P (telem P t)+vs.toList.length:=⟨by omega,by rw[wcM];omega⟩
     rw[wbH (by simpa using hjn)];rw[Qc VC,waY Y2,wab (by rw[wcM];omega)]at e6;rw[wa2 e6];have hr:=(VD (j-n*tsize P (telem P t)) (by omega) (by omega)).mono hk (fun _ h=>h);simp only[Qq,Qm,wbW,hn];simp only[waT,wap]at *
     exact .t hr
   .rename_i hne
    simp only[wbt]at hb';obtain⟨cs0,VE,rfl⟩:=hb';obtain⟨c2,arr2,el2,f1,f2,f3,f4⟩:=h.heap b' cs0 VE;have WK:c2≠c:=fun e=>hne (h.inj b' b c2 f1 (e▸hρb))
    exact⟨c2,arr2,el2,f1,by rw[r3 c2 WK];exact f2,by simpa using f3,fun j hj Y2=>by
     simp only[Qq];exact((f4 j (by simpa using hj) Y2).mono hk (fun _ h=>h) hs (fun _ _ h=>h)).junked (fun _ _ _ h=>h)⟩
  .simp only[zbl]at hb'
   split at hb'
   .cases hb'
   .simp only[wcx]at hb';exact h.dom b' hb'
  .simp only[zgp]
   exact(h.lift hk (fun _ h=>h) hs (fun _ _ h=>h) t').junked (fun _ _ _ h=>h)
 ·
  have Uu:∀ w',w'.heap=w.heap->(Builtin.firstCells (tsize P (telem P t)) n (.slice (some ⟨c,0,none⟩) n cap)).run P w' = .ok ((List.range (n*tsize P (telem P t))).map fun j=>(arr[j]?).getD undef).toArray w':=by
   intro w' UQ;unfold Builtin.firstCells;simp only[];refine zeU _ fun j hj=>?_
   have:j<arr.size:=by omega
   rw[zg6 UQ];simp[World.cell?,e2,this]
  obtain⟨k,rest,hk,Xt,Xe⟩:=ziu (P:=P) (w:=w) (w₀:=w) (ty:=o.type) (A:=some ⟨c,0,none⟩) (A':=A') (n:=n) (c:=cap) (n':=ys.length) (c':=c') h1 h2 h3 h4 h5 (by omega) hb V8 UF Uu Vl rfl;generalize UZ:((List.range (n*tsize P (telem P t))).map fun j=>(arr[j]?).getD undef).toArray++vs++rest=ARR at Xe;have Vc:((List.range (n*tsize P (telem P t))).map fun j=>(arr[j]?).getD undef).toArray.size=n*tsize P (telem P t):=by simp
  have Vq:ARR.size=k*tsize P (telem P t):=by
   rw[<-UZ];simp only[wb2,Vc];rw[Xt,Uw,Xz,VJ,<-war,<-war];congr 1;omega
  have YB:∀ m,ok m->m<w.heap.size:=fun m hm=>(h.okR m hm).1
  have hρ:∀ b' m,b'≠b->ρ b'=some m->ext ρ b (some w.heap.size) b'=some m:=fun b' m hne hm=>by simp[ext,hne,hm]
  have VU:=zdH (w:=w) (o:=.cells ARR (telem P t)) YB;have Xa:∀ m,m<w.heap.size->(w.heap.push (.cells ARR (telem P t)))[m]? = w.heap[m]?:=fun m hm=>by simp[wcc,wcd hm]
  have WL:∀ m el k,w.shape? m=some (el,k)->({ w with heap:=w.heap.push (.cells ARR (telem P t)) }:World).shape? m=some (el,k):=zda;refine⟨.slice (some ⟨w.heap.size,0,none⟩) (n+ys.length) k,_,ext ρ b (some w.heap.size),ok,zeh ho (by rw[KH,Uv];exact Xe),.one (.vec (c:=w.heap.size) (n:=ARR.size) (by simp[ext]) hk ⟨telem P t,by simp[World.shape?]⟩ (by rw[Vq];omega)),?_,?_⟩
  .have main:SR (ext ρ b (some w.heap.size)) ok (σ.renew b (cs.map (jC b)++ys.flatten.map .t)) a { w with heap:=w.heap.push (.cells ARR (telem P t)) }:=by
    refine⟨⟨fun b' cs' hb'=>?_,fun b' hb'=>?_,fun b1 b2 m h1 h2=>?_,fun m hm=>⟨by have:=YB m hm;simp;omega,fun b' hb'=>?_⟩⟩,h.size,fun t'=>?_,h.defers,h.small⟩
    .simp only[zbl]at hb'
     split at hb'
     .subst b';cases hb'
      refine⟨w.heap.size,ARR,telem P t,by simp[ext],by simp,by rw[Vq];simp only[Qj,Qm,hn,Xz,<-war];exact wag _ hk,fun j hj Y2=>?_⟩;subst UZ;by_cases hjn:j<cs.length
      .rw[wby (by simpa using hjn)]
       rw[wbN (by simp;omega),wbN (by simp;omega)];simp only[Qq,wcj,wc7];have Y1:j<arr.size:=by omega
       have:=e4 j hjn Y1;rw[show(arr[j]?).getD undef=arr[j] by simp[Y1]];exact(this.mono (ρ':=ρ) VU (fun _ h=>h) WL (fun _ _ h=>h)).junked hρ
      .have Eb:j<cs.length+ys.flatten.length:=by have:=hj;simp only[Qj,Qm]at this;exact this
       rw[wbH (by simpa using hjn)];rw[wbN (by rw[wb2,Vc];omega),wdI (by rw[Vc];omega)];have hr:=(VD (j-n*tsize P (telem P t)) (by omega) (by omega)).mono VU (fun _ h=>h);simp only[Qq,Qm,Vc,hn];exact .t hr
     .rename_i hne
      simp only[wbt]at hb';obtain⟨cs0,VE,rfl⟩:=hb';obtain⟨c2,arr2,el2,f1,f2,f3,f4⟩:=h.heap b' cs0 VE;refine⟨c2,arr2,el2,hρ _ _ hne f1,by rw[Xa c2 (Yb h.toHR f1)];exact f2,by simpa using f3,fun j hj Y2=>?_⟩;simp only[Qq];exact((f4 j (by simpa using hj) Y2).mono (ρ':=ρ) VU (fun _ h=>h) WL (fun _ _ h=>h)).junked hρ
    .simp only[zbl]at hb'
     split at hb'
     .cases hb'
     .rename_i hne;simp only[wcx]at hb';simp[ext,hne,h.dom b' hb']
    .simp only[ext]at h1 h2
     split at h1<;>split at h2
     .subst b1;subst b2;rfl
     .cases h1;have:=Yb h.toHR h2;omega
     .cases h2;have:=Yb h.toHR h1;omega
     .exact h.inj b1 b2 m h1 h2
    .simp only[ext]at hb'
     split at hb'
     .cases hb';have:=YB _ hm;omega
     .exact(h.okR m hm).2 b' hb'
    .simp only[zgp]
     exact(h.lift (ρ':=ρ) VU (fun _ h=>h) WL (fun _ _ h=>h) t').junked hρ
   exact main.drawn.1
  .refine⟨by simp,fun m hm _=>Xa m hm,WL,fun b' m hb'=>?_,fun _ h=>h,fun _ h=>.inl h,fun b' hb'=>.inl (by unfold ext;rw[Qb (by omega)]),⟨rfl,rfl⟩⟩
   simp only[ext]at hb';split at hb'
   .cases hb';exact .inr (Qd _)
   .exact .inl ⟨b',hb'⟩
end
theorem zhr{P:Program}{m:Nat}{o:Oper}{σ:St}{K:AV->St->Prop}{r:AV}{σ':St}(h:zds P o σ r σ')(hn:σ'.n=σ.n)(hK:K r σ'):OpA P m o σ K:=⟨r,σ',hn,h,hK⟩
theorem zhE{P:Program}{m:Nat}{o:Oper}{σ:St}{K:AV->St->Prop}{r:AV}{σ':St}(hm:2<=m)(h:zds P o σ r σ')(hn:σ'.n=σ.n)(hK:K r σ'):OpA P m o σ K:=⟨r,σ',hn,h,hK⟩
@[go_sem] theorem zBX{P:Program}{m:Nat}{σ:St}{K:AV->St->Prop}{d:Option Nat}{ty:TypeId}{pos:String}{af:Array Edge}{g:Option (Nat×Bool)}{as:Array Operand}{ats:Array TypeId} :
  QV P m ⟨d,.call { callee:=.builtin .append,args:=as,argTypes:=ats },ty,pos,af,g⟩ σ K=OpA P m ⟨d,.call { callee:=.builtin .append,args:=as,argTypes:=ats },ty,pos,af,g⟩ σ K:=rfl
def fC(b sz len:Nat)(x:T):C->C
 |.ptr b' o=>if b'=b then .t .junk else .ptr b' o
 |.vec b' s o n=>if b'=b then(if s=sz/\o=0/\n=len then .t x else .t .junk)else .vec b' s o n
 |.fn f caps=>if caps.any (fun p=>p.1==b)then .t .junk else .fn f caps
 |.t y=>.t y
def fA(b sz len:Nat)(x:T):AV->AV
 |.one c=>.one (fC b sz len x c)
 |.agg cs=>.agg (cs.map (fC b sz len x))
 |.iptr cs=>.iptr cs
 |.tup []=>.tup []
 |_=>.junk
def St.frz(σ:St)(b sz len:Nat)(x:T):St:=⟨σ.n,fun t=>fA b sz len x (σ.s t),fun n=>if n=b then none else(σ.H n).map (·.map (fC b sz len x))⟩
section
variable {σ:St} {b sz len:Nat} {x:T}
@[go_sem] theorem frz_n:(σ.frz b sz len x).n=σ.n:=rfl
@[go_sem] theorem frz_s{t:Nat}:(σ.frz b sz len x).s t=fA b sz len x (σ.s t):=rfl
@[go_sem] theorem zmr{n:Nat}:(σ.frz b sz len x).H n=if n=b then none else(σ.H n).map (·.map (fC b sz len x)):=rfl
@[go_sem] theorem fA_one{c:C}:fA b sz len x (.one c) = .one (fC b sz len x c):=rfl
@[go_sem] theorem fA_agg{cs:List C}:fA b sz len x (.agg cs) = .agg (cs.map (fC b sz len x)):=rfl
@[go_sem] theorem zDT{cs:List T}:fA b sz len x (.iptr cs) = .iptr cs:=rfl
@[go_sem] theorem zDU:fA b sz len x .junk = .junk:=rfl
@[go_sem] theorem zC2:fA b sz len x undefA=undefA:=rfl
@[go_sem] theorem zDV{k:IntKind}{n:Int}:fA b sz len x (litI k n)=litI k n:=rfl
@[go_sem] theorem zDW{y:Bool}:fA b sz len x (QO y)=QO y:=rfl
@[go_sem] theorem fC_t{y:T}:fC b sz len x (.t y) = .t y:=rfl
@[go_sem] theorem fC_ptr{b' o:Nat}:fC b sz len x (.ptr b' o)=if b'=b then .t .junk else .ptr b' o:=rfl
@[go_sem] theorem fC_vec{b' s o n:Nat}:fC b sz len x (.vec b' s o n)=if b'=b then(if s=sz/\o=0/\n=len then .t x else .t .junk)else .vec b' s o n:=rfl
inductive TreeOf(cs:List C)(sz len:Nat):T->Prop where
 |seq {nl:Option Bool} {xs:List (List T)}:nl≠some true->cs=xs.flatten.map .t->xs.length=len->(∀ y∈xs,y.length=sz)->TreeOf cs sz len (.seq nl xs)
theorem zvf{ρ:Nat->Option Nat}{ok:Nat->Prop}{w:World}{H:QE}(h:HR ρ ok H w){cs:List C}(hb:H b=some cs)(hx:TreeOf cs sz len x):∃ c,ρ b=some c /\
  (∀ {y:C} {v:Value},RC w ok ρ y v->RC w (fun n=>ok n\/n=c) (fun b'=>if b'=b then none else ρ b') (fC b sz len x y) v) /\
  (∀ {y:AV} {v:Value},RA w ok ρ y v->RA w (fun n=>ok n\/n=c) (fun b'=>if b'=b then none else ρ b') (fA b sz len x y) v):=by
 obtain⟨c,arr,el,h1,h2,h3,h4⟩:=h.heap b cs hb;have Vg:∀ n,ok n->(ok n\/n=c):=fun _ h=>.inl h
 have hk:zah ok w w:=fun _ _=>rfl
 have key:∀ {y:C} {v:Value},RC w ok ρ y v->RC w (fun n=>ok n\/n=c) (fun b'=>if b'=b then none else ρ b') (fC b sz len x y) v:=by
  intro y v hy;have YT:=hy.oneCell;cases hy with
  |t hy=>exact .t (hy.mono hk Vg)
  |ptr hy =>
   simp only[fC];split
   .exact .t (.junk YT)
   .rename_i hne;exact .ptr (by rw[Qb hne];exact hy)
  |vec hy g1 g2 g3 =>
   simp only[fC];split
   .rename_i e
    split
    .rename_i e2
     obtain⟨rfl,rfl,rfl⟩:=e2;subst e;rw[h1]at hy;cases hy
     rename_i b sz len cap nn;cases hx with
     |seq k1 k2 k3 k4 =>
      rename_i nl xs;refine .t (.seq (sz:=sz) (blk:=c) (off:=0) (u:=fun i j=>(arr[i*sz+j]?).getD undef) k3.symm g1 (fun e=>by cases e) (fun e=>Qn e k1) (fun _=>by simp) k4 (fun _=>⟨rfl,.inr rfl⟩) (fun i hi j hj=>?_) (fun i hi j hj=>?_))
      .have Xz:=zdB k4
       have Y2:=k4 _ (Qf hi);have:(i+1)*sz<=xs.length*sz:=wag _ hi;rw[wa1]at this;have Xo:cs.length=xs.length*sz:=by rw[k2,Qm,Xz]
       have Y1:i*sz+j<arr.size:=by omega
       simp[World.cell?,h2,Y1]
      .have Xz:=zdB k4
       have Y2:=k4 _ (Qf hi);have Xb:(i+1)*sz<=xs.length*sz:=wag _ hi;rw[wa1]at Xb;have Xo:cs.length=xs.length*sz:=by rw[k2,Qm,Xz]
       have Y1:i*sz+j<arr.size:=by omega
       have ER:=h4 (i*sz+j) (by omega) Y1;have Kl:0<sz:=by omega
       obtain⟨q1,q2,q3⟩:=zgY Kl k4 (i*sz+j) (by rw[Xz];omega);have ed:(i*sz+j)/sz=i:=by rw[Qu,wde Kl,wbp (by omega),wap]
       have em:(i*sz+j)%sz=j:=by rw[Qu,wdf,wbv (by omega)]
       simp only[ed,em]at q3;have ec:cs[i*sz+j]'(by omega) = .t (xs[i][j]):=by
        simp only[k2,Qq,q3]
       rw[ec]at ER;cases ER with
       |t ER =>
        rw[show(arr[i*sz+j]?).getD undef=arr[i*sz+j] by simp[Y1]];exact ER.mono hk Vg
    .exact .t (.junk YT)
   .rename_i hne;exact .vec (by rw[Qb hne];exact hy) g1 g2 g3
  |fn hy g1 =>
   simp only[fC];split
   .exact .t (.junk YT)
   .rename_i hn
    refine .fn hy fun i hi Y6=>?_
    obtain⟨c',k2,k3⟩:=g1 i hi Y6;refine⟨c',?_,k3⟩;have:¬(_:Nat×Nat).1=b:=fun e=>hn (wbm.2 ⟨_,Qf hi,by simpa using e⟩)
    rw[Qb this];exact k2
 refine⟨c,h1,key,?_⟩;intro y v hy;cases hy with
 |one hy=>exact .one (key hy)
 |agg g1 g2=>exact .agg (by simpa using g1) fun j hj Y2=>by simp only[Qq];exact key (g2 j (by simpa using hj) Y2)
 |iptr g1 g2 g3=>exact .iptr (.inl g1) g2 fun j hj=>(g3 j hj).mono hk Vg
 |@tup xs vs g1 g2 =>
  cases xs with
  |nil=>exact .tup g1 fun j hj=>by simp at hj
  |cons _ _=>exact .junk
 |junk=>exact .junk
theorem znG{ρ:Nat->Option Nat}{ok:Nat->Prop}{a:Act}{w:World}(h:SR ρ ok σ a w){cs:List C}(hb:σ.H b=some cs)(hx:TreeOf cs sz len x):∃ ρ' ok',SR ρ' ok' (σ.frz b sz len x) a w/\Goes ρ ok w ρ' ok' w /\
  ∀ {y:AV} {v:Value},RA w ok ρ y v->RA w ok' ρ' (fA b sz len x y) v:=by
 obtain⟨c,h1,hC,hA⟩:=zvf h.toHR hb hx;refine⟨_,_,⟨⟨fun b' cs' hb'=>?_,fun b' hb'=>?_,fun b1 b2 m h1 h2=>?_,fun m hm=>?_⟩,h.size,fun t=>hA (h.slots t),h.defers,h.small⟩,⟨Qd _,fun _ _ _=>rfl,fun _ _ _ h=>h,fun b' m hb'=>?_,fun _ h=>.inl h,fun m hm=>?_,fun b' _=>by show(if _ then _ else _)=_\/(if _ then _ else _)=_;split<;>simp,⟨rfl,rfl⟩⟩,hA⟩
 .simp only[zmr]at hb'
  split at hb'
  .cases hb'
  .rename_i hne
   simp only[wbt]at hb';obtain⟨cs0,V8,rfl⟩:=hb';obtain⟨c2,arr,el,f1,f2,f3,f4⟩:=h.heap b' cs0 V8;exact⟨c2,arr,el,by rw[Qb hne];exact f1,f2,by simpa using f3,fun j hj Y2=>by simp only[Qq];exact hC (f4 j (by simpa using hj) Y2)⟩
 .simp only[zmr]at hb'
  split at hb'
  .rename_i e;simp[e]
  .rename_i hne;simp only[wcx]at hb';simp[hne,h.dom b' hb']
 .by_cases e1:b1=b
  .simp[e1]at h1
  .by_cases e2:b2=b
   .simp[e2]at h2
   .simp only[e1,e2,if_false]at h1 h2;exact h.inj b1 b2 m h1 h2
 .rcases hm with hm|rfl
  .refine⟨(h.okR m hm).1,fun b' hb'=>?_⟩
   split at hb'
   .cases hb'
   .exact(h.okR m hm).2 b' hb'
  .refine⟨Yb h.toHR h1,fun b' hb'=>?_⟩
   split at hb'
   .cases hb'
   .rename_i hne;exact hne (h.inj b' b _ hb' h1)
 .split at hb'
  .cases hb'
  .exact .inl ⟨b',hb'⟩
 .rcases hm with hm|rfl
  .exact .inl hm
  .exact .inr (.inl ⟨b,h1⟩)
theorem zbj{cs:List C}(hb:σ.H b=some cs)(hx:TreeOf cs sz len x):GStep σ (σ.frz b sz len x):=fun ρ ok a w h=>by
 obtain⟨ρ',ok',h1,h2,_⟩:=znG h hb hx;exact⟨ρ',ok',h1,h2⟩
theorem zcd{P:Program}{m:Nat}{f:FuncId}{as:List AV}{tvs:List TV}{r:TV}{K:AV->St->Prop}(b sz len:Nat){x:T}{cs:List C}(hm:m=2)(hp:Q7 P f tvs r)(hb:σ.H b=some cs)(hx:TreeOf cs sz len x)(Xc:as.map (fA b sz len x)=tvs.map emb)
  (hK:K (emb r) (σ.frz b sz len x)):ZM P m f as σ K:=by
 refine .inr (.inr (.inl ⟨hm,emb r,σ.frz b sz len x,rfl,⟨hp.1,fun ρ ok a w vs h hv=>?_⟩,hK⟩));obtain⟨ρ',ok',s1,g1,hA⟩:=znG h hb hx;have Pq:zaI w ok' noρ (tvs.map emb) vs:=by
  rw[<-Xc];refine⟨by rw[Qm];exact hv.1,fun i hi Y6=>?_⟩;have XV:i<as.length:=by simpa using hi
  have e:(as.map (fA b sz len x))[i]=emb (tvs[i]'(by have:=congrArg List.length Xc;simp at this;omega)):=by
   simp only[Xc,Qq]
  have h1:RA w ok' ρ' ((as.map (fA b sz len x))[i]'(by simpa using XV)) vs[i]:=by simp only[Qq];exact hA (hv.2 i XV Y6)
  rw[e];exact zex h1 _ e
 refine(hp.2 ok' w vs (fun n hn=>(s1.okR n hn).1) Pq).mono ?_;rintro e w' ⟨v,ok'',rfl,hr,hg,Y1⟩;obtain⟨t1,t2⟩:=s1.pure hg Y1;exact⟨v,ρ',ok'',rfl,zex hr _ rfl,t1,g1.trans t2⟩
end
def Q5{α:Type}(f:α->List T)(xs:List α):List C:=(xs.map f).flatten.map .t
section
variable {α:Type} {f:α->List T} {xs ys:List α} {sz:Nat}
theorem zin:Q5 f ([]:List α)=[]:=rfl
theorem zcr{x:α}:Q5 f (x::xs)=(f x).map .t++Q5 f xs:=by simp[Q5]
theorem zgQ:Q5 f (xs++ys)=Q5 f xs++Q5 f ys:=by simp[Q5]
theorem zcG(h:∀ x,(f x).length=sz):(Q5 f xs).length=xs.length*sz:=by
 induction xs with
 |nil=>simp[zin]
 |cons x l ih=>rw[zcr,Qj,ih,Qm,h,Qe,wa1];omega
theorem zkz{b:Nat}:(Q5 f xs).map (jC b)=Q5 f xs:=by
 unfold Q5;rw[wah];rfl
theorem ztg{b s n:Nat}{x:T}:(Q5 f xs).map (fC b s n x)=Q5 f xs:=by
 unfold Q5;rw[wah];rfl
theorem QF{D:List Nat}:(Q5 f xs).all (ZA D)=true:=by
 rw[wac];intro c hc;unfold Q5 at hc;obtain⟨x,_,rfl⟩:=Qp.1 hc;rfl
theorem zki(h:∀ x,(f x).length=sz):∀ {xs:List α} {i:Nat},(Q5 f xs).drop (i*sz)=Q5 f (xs.drop i)
 |[],i=>by simp[zin]
 |x::l,0=>by simp
 |x::l,i+1=>by
  rw[zcr,wa1,List.drop_append,List.drop_of_length_le (by rw[Qm,h];omega),wbw,Qm,h,Nat.add_sub_cancel,zki h];rfl
theorem zmV(h:∀ x,(f x).length=sz):∀ {xs:List α} {i:Nat},(Q5 f xs).take (i*sz)=Q5 f (xs.take i)
 |[],i=>by simp[zin]
 |x::l,0=>by simp[zin]
 |x::l,i+1=>by
  rw[zcr,wa1,wc2,List.take_add,List.take_left' (by simp[h]),List.drop_left' (by simp[h]),zmV h,wcZ,zcr]
theorem ziy(h:∀ x,(f x).length=sz){i:Nat}(hi:i<xs.length):(Q5 f xs).drop (i*sz)=(f xs[i]).map .t++Q5 f (xs.drop (i+1)):=by
 rw[zki h,waD hi,zcr]
theorem zgZ(h:∀ x,(f x).length=sz){i:Nat}(hi:i<xs.length){y:α}:Yq (Q5 f xs) (i*sz) ((f y).map .t)=Q5 f (xs.set i y):=by
 unfold Yq;rw[zmV h];have e:(Q5 f xs).drop (i*sz+((f y).map C.t).length)=Q5 f (xs.drop (i+1)):=by
  rw[Qm,h,show i*sz+sz=(i+1)*sz by rw[wa1],zki h]
 rw[e,wer,Qc hi,zgQ,zcr,waN]
theorem zmW{x:α}{n:Nat}:Zh n ((f x).map .t)=Q5 f (List.replicate n x):=by
 induction n with
 |zero=>rfl
 |succ n ih=>rw[zkK,ih,wbs,zcr]
theorem Yp(h:∀ x,(f x).length=sz):TreeOf (Q5 f xs) sz xs.length (eL f xs) :=
 .seq (by simp) rfl (by simp) (fun y hy=>by obtain⟨x,_,rfl⟩:=Qp.1 hy;exact h x)
theorem zjC{H:QE}{b n:Nat}(h:∀ x,(f x).length=sz)(hb:H b=some (Q5 f xs))(hn:n=xs.length):FzC H (.vec b sz 0 n) (eL f xs):=by
 subst hn;refine .vec (by simp) hb (by simp) (fun y hy=>by obtain⟨x,_,rfl⟩:=Qp.1 hy;exact h x) (by rw[zcG h];omega) fun i hi j hj Y1=>?_
 have hall:∀ y∈xs.map f,y.length=sz:=fun y hy=>by obtain⟨x,_,rfl⟩:=Qp.1 hy;exact h x
 have Y2:=hall _ (Qf hi);have Kl:0<sz:=by omega
 have Xz:=zdB hall;have Xb:(i+1)*sz<=(xs.map f).length*sz:=wag _ hi;rw[wa1]at Xb;obtain⟨q1,q2,q3⟩:=zgY Kl hall (i*sz+j) (by rw[Xz];omega);have ed:(i*sz+j)/sz=i:=by rw[Qu,wde Kl,wbp (by omega),wap]
 have em:(i*sz+j)%sz=j:=by rw[Qu,wdf,wbv (by omega)]
 simp only[ed,em]at q3;simp only[waT];have ec:(Q5 f xs)[i*sz+j]'(by simpa using Y1) = .t ((xs.map f)[i][j]):=by
  simp only[Q5,Qq,q3]
 rw[ec];exact .t
theorem zgi{H:QE}{b n:Nat}(h:∀ x,(f x).length=sz)(hb:H b=some (Q5 f xs))(hn:n=xs.length):FzA H (.one (.vec b sz 0 n)) (.one (eL f xs)):=.one (zjC h hb hn)
theorem zcA{H:QE}{nl:Option Bool}:FzA H (.one (.t (.seq nl []))) (.one (eL f [])):=.one .weak
end
def QW(P:Program)(t t':TypeId)(sz bytes:Nat):Prop:=tok P t=true/\isSliceD (tdesc P t)=true/\tok P (telem P t)=true/\tok P t'=true/\isSliceD (tdesc P t')=true/\(tzero P (telem P t)).isSome=true /\
 ((tzero P (telem P t)).getD []).length=tsize P (telem P t)/\tsize P (telem P t)=sz/\tbytes P (telem P t)=bytes/\0<bytes
section
variable {P:Program} {m:Nat} {σ:St} {K:AV->St->Prop} {d:Nat} {ty:TypeId} {pos:String} {af:Array Edge} {g:Option (Nat×Bool)} {x y:Operand} {t t':TypeId} {α:Type} {f:α->List T} {sz bytes:Nat}
theorem zcs(hm:2<=m)(Wx:QW P t t' sz bytes)(hf:∀ x,(f x).length=sz){nl:Option Bool}{yv:List (List T)}(ys:List α)(hx:ev σ.s x = .one (.t (.seq (some true) [])))(hy:ev σ.s y = .one (.t (.seq nl yv)))(Kc:yv=ys.map f)
  (hne:ys≠[]) (hb:ys.length*bytes<=2^47) (hd:σ.H d=none) (XE:d<PIN) (hK:K (.one (.vec d sz 0 ys.length)) (σ.withH (upd σ.H d (some (Q5 f ys))))) :
  OpA P m ⟨some d,.call { callee:=.builtin .append,args:=#[x,y],argTypes:=#[t,t'] },ty,pos,af,g⟩ σ K:=by
 obtain⟨h1,h2,h3,h4,h5,h6,h7,rfl,rfl,Wh⟩:=Wx;subst Kc;have:=zpX (P:=P) (σ:=σ) (d:=d) (o:=⟨some d,.call { callee:=.builtin .append,args:=#[x,y],argTypes:=#[t,t'] },ty,pos,af,g⟩) rfl h1 h2 h3 h4 h5 h6 h7 Wh hx hy (fun z hz=>by obtain⟨w,_,rfl⟩:=Qp.1 hz;exact hf w) (by simpa using hne) (by simpa using hb) hd XE;rw[Qm]at this;exact zhE hm this rfl hK
theorem zar(hm:2<=m)(Wx:QW P t t' sz bytes)(hf:∀ x,(f x).length=sz){nl:Option Bool}{yv:List (List T)}(xs ys:List α){b n:Nat}(hx:ev σ.s x = .one (.vec b sz 0 n))(hn:n=xs.length)(YN:σ.H b=some (Q5 f xs))(hy:ev σ.s y = .one (.t (.seq nl yv)))(Kc:yv=ys.map f)
  (hb:(xs.length+ys.length)*bytes<=2^47) (Wr:b<PIN) (hK:K (.one (.vec b sz 0 (xs++ys).length)) (σ.renew b (Q5 f (xs++ys)))) :
  OpA P m ⟨some d,.call { callee:=.builtin .append,args:=#[x,y],argTypes:=#[t,t'] },ty,pos,af,g⟩ σ K:=by
 obtain⟨h1,h2,h3,h4,h5,h6,h7,rfl,rfl,Wh⟩:=Wx;subst Kc;subst hn;have:=zpY (P:=P) (σ:=σ) (o:=⟨some d,.call { callee:=.builtin .append,args:=#[x,y],argTypes:=#[t,t'] },ty,pos,af,g⟩) rfl h1 h2 h3 h4 h5 h6 h7 Wh hx YN (zcG hf) hy (fun z hz=>by obtain⟨w,_,rfl⟩:=Qp.1 hz;exact hf w) (by simpa using hb) Wr;rw[zkz,Qm]at this;have e:Q5 f xs++(ys.map f).flatten.map C.t=Q5 f (xs++ys):=by rw[zgQ];rfl
 rw[e]at this;rw[Qj]at hK;exact zhE hm this rfl hK
end
theorem zrc{m n:Nat}:Int.tmod (m:Int) (n:Int)=((m%n:Nat):Int):=rfl
theorem zrd{m n:Nat}:Int.tdiv (m:Int) (n:Int)=((m/n:Nat):Int):=rfl
theorem Zx{m:Nat}:Int.tmod (m:Int) 1000000000=((m%1000000000:Nat):Int):=rfl
theorem QS{m:Nat}:Int.tdiv (m:Int) 1000000000=((m/1000000000:Nat):Int):=rfl
def scA:AV->Bool
 |.one (.t (.lit _))=>true
 |.tup []=>true
 |.tup [.one (.t (.lit _)),.one (.t (.lit _))]=>true
 |_=>false
theorem RA.scalar{w w':World}{ok ok':Nat->Prop}{ρ ρ':Nat->Option Nat}{x:AV}{v:Value}(h:RA w ok ρ x v)(hx:scA x=true):RA w' ok' ρ' x v:=by
 have lit:∀ {l:Value} {v:Value},RA w ok ρ (.one (.t (.lit l))) v->RA w' ok' ρ' (.one (.t (.lit l))) v:=by
  intro l v h;cases h with|one h=>cases h with|t h=>cases h with|lit h=>exact .one (.t (.lit h))
 unfold scA at hx;split at hx
 .exact lit h
 .cases h with|tup h1 h2=>exact .tup h1 fun j hj=>by simp at hj
 .cases h with
  |tup h1 h2 =>
   refine .tup h1 fun j hj Y2=>?_
   have:=h2 j hj Y2
   match j,hj with
   |0,_=>exact lit this
   |1,_=>exact lit this
 .cases hx
def Yv(b:Nat)(cs:List C):QE:=fun n=>if n=b then some cs else none
@[go_sem] theorem zB1{b n:Nat}{cs:List C}:Yv b cs n=if n=b then some cs else none:=rfl
def zd9:C->Bool
 |.t _=>true
 |_=>false
def zh3(P:Program)(rs:List ResultVar)(r:AV)(cs:List C)(e:Exit)(σ:St):Prop :=
 (e = .normal\/e = .ret)/\(∀ x∈rs,zak P σ x)/\zb6 P rs σ=r/\σ.H PIN=some cs
theorem RC.tree{ρ ρ':Nat->Option Nat}{w:World}{ok:Nat->Prop}{x:C}{v:Value}(hx:zd9 x=true)(h:RC w ok ρ x v):RC w ok ρ' x v:=by
 cases h with
 |t h=>exact .t h
 |_=>simp[zd9]at hx
section
variable {P:Program}
def zj5(b:Nat)(r r':AV):Prop:=∀ (w:World) (ok:Nat->Prop) (ρ ρ2:Nat->Option Nat) (v:Value),ρ2 PIN=ρ b->RA w ok ρ2 r v->RA w ok ρ r' v
theorem zeq{b:Nat}{r:AV}(h:scA r=true):zj5 b r r:=fun _ _ _ _ _ _ hr=>hr.scalar h
theorem zkO{b s o n:Nat}:zj5 b (.one (.vec PIN s o n)) (.one (.vec b s o n)):=fun _ _ _ _ _ e hr=>by
 cases hr with
 |one hr=>cases hr with
  |vec h1 h2 h3 h4=>exact .one (.vec (by rw[<-e];exact h1) h2 h3 h4)
theorem zih(hm:P.follows .mixedOrders=true){f:FuncId}{fn:Func}{c:Code}{n:Nat}{rs:List ResultVar}{args:List AV}{r:AV}{cs cs':List C}(Xd:∀ (as:Array Value) w,(callFunc f as).run P w = .ok (.enter f as) w)(hf:P.funcs[f]? = some fn)
  (hb:fn.body=some c) (hn:fn.ntmps=n) (Ug:fn.results=rs.toArray) (hl:args.length<=n) (XO:n<=PIN) (hr:zj5 PIN r r) (VF:cs'.all zd9=true) (h:wpA P c (zh3 P rs r cs') (zaZ n args (Yv PIN cs))) :
  Ze P f args (Yv PIN cs) r (Yv PIN cs'):=by
 subst hn;have e:fn.results.toList=rs:=by rw[Ug]
 subst e;refine⟨Xd,fun ρ ok w vs hH hv=>calls_of_wp hf hb (Code.wp_mono ?_ (zcu hm c _ _ ρ ok _ w (zdl hH hv (by rw[hv.1];exact hl) XO) h))⟩;rintro e a w' ⟨σ,ρ',ok',⟨he,YW,Vi,Y9⟩,s,g⟩;obtain⟨v,r1,r2⟩:=zc7 s YW;rw[Vi]at r2;obtain⟨c0,arr,el,k1,k2,k3,k4⟩:=s.heap PIN cs' Y9;obtain⟨c1,arr1,el1,j1,_⟩:=hH.heap PIN cs (by simp[Yv]);have Vk:c0=c1:=by
  rcases g.pin PIN (Qd _)with h1|h1
  .rw[h1,j1]at k1;exact(wa2 k1).symm
  .rw[h1]at k1;cases k1
 subst Vk;have hρ0:∀ b,b≠PIN->ρ b=none:=fun b hb=>hH.dom b (by simp[Yv,hb])
 have main:∃ v' ρ'' ok'',Ending.returned v = .returned v'/\RA w' ok'' ρ'' r v'/\HR ρ'' ok'' (Yv PIN cs') w'/\Goes ρ ok w ρ'' ok'' w'/\∀ b c,ρ b=some c->ρ'' b=some c:=by
  refine⟨v,ρ,ok',rfl,hr _ _ _ _ _ (by rw[k1,j1]) r2,⟨fun b cs2 hb=>?_,fun b hb=>?_,hH.inj,fun m hm=>⟨(s.okR m hm).1,fun b hb=>?_⟩⟩,⟨g.size,g.same,g.shape,fun b m hb=>.inl ⟨b,hb⟩,g.up,g.down,fun _ _=>.inl rfl,g.env⟩,fun _ _ h=>h⟩
  .simp only[Yv]at hb
   split at hb
   .subst b;cases hb
    refine⟨c0,arr,el,j1,k2,k3,fun j hj Y2=>?_⟩;exact(k4 j hj Y2).tree ((wac.1 VF) _ (Qf hj))
   .cases hb
  .simp only[Yv]at hb
   split at hb
   .cases hb
   .exact hρ0 b ‹_›
  .by_cases e:b=PIN
   .subst e
    rw[j1]at hb;cases hb
    exact(s.okR _ hm).2 PIN k1
   .rw[hρ0 b e]at hb;cases hb
 have XX:a.defers=[]/\∃ v,(results fn a.tmps).run P w' = .ok v w'/\∃ v' ρ'' ok'',Ending.returned v = .returned v'/\RA w' ok'' ρ'' r v'/\HR ρ'' ok'' (Yv PIN cs') w'/\Goes ρ ok w ρ'' ok'' w'/\∀ b c,ρ b=some c->ρ'' b=some c :=
  ⟨s.defers,v,r1,main⟩
 rcases he with rfl|rfl<;>exact XX
def zef(b:Nat):C->C
 |.vec b' s o n=>if b'=b then .vec PIN s o n else .t .junk
 |.ptr b' o=>if b'=b then .ptr PIN o else .t .junk
 |.t x=>.t x
 |.fn _ _=>.t .junk
def zie(b:Nat):AV->AV
 |.one c=>.one (zef b c)
 |.agg cs=>.agg (cs.map (zef b))
 |.iptr cs=>.iptr cs
 |_=>.junk
@[go_sem] theorem zDo{b:Nat}{c:C}:zie b (.one c) = .one (zef b c):=rfl
@[go_sem] theorem zB2{b:Nat}{k:IntKind}{n:Int}:zie b (litI k n)=litI k n:=rfl
@[go_sem] theorem zB3{b:Nat}{x:Bool}:zie b (QO x)=QO x:=rfl
@[go_sem] theorem renC_t{b:Nat}{x:T}:zef b (.t x) = .t x:=rfl
@[go_sem] theorem zDp{b b' s o n:Nat}:zef b (.vec b' s o n)=if b'=b then .vec PIN s o n else .t .junk:=rfl
@[go_sem] theorem zDq{b b' o:Nat}:zef b (.ptr b' o)=if b'=b then .ptr PIN o else .t .junk:=rfl
theorem ze1{m:Nat}{f:FuncId}{as args:List AV}{σ:St}{K:AV->St->Prop}(b:Nat){cs cs':List C}{r r':AV}(hm:m=1\/m=2)(h:Ze P f args (Yv PIN cs) r (Yv PIN cs'))(hb:σ.H b=some cs)(Xc:as.map (zie b)=args)(hr:zj5 b r r')
  (YN:cs.all zd9=true) (VF:cs'.all zd9=true) (hK:K r' (σ.withH (upd σ.H b (some cs')))):ZM P m f as σ K:=by
 refine .inr (.inl ⟨hm,r',_,⟨h.1,fun ρ ok w vs hH hv=>?_⟩,hK⟩);obtain⟨c,arr,el,h1,h2,h3,h4⟩:=hH.heap b cs hb
 let ρ1:Nat->Option Nat:=fun x=>if x=PIN then ρ b else none
 have hρ1:∀ x n,ρ1 x=some n->x=PIN/\n=c:=fun x n hx=>by
  simp only[ρ1]at hx;split at hx
  .rw[h1]at hx;cases hx;exact⟨‹_›,rfl⟩
  .cases hx
 have X5:HR ρ1 ok (Yv PIN cs) w:=by
  refine⟨fun x cs2 hx=>?_,fun x hx=>?_,fun x y n hx hy=>by rw[(hρ1 x n hx).1,(hρ1 y n hy).1],fun n hn=>⟨(hH.okR n hn).1,fun x hx=>?_⟩⟩
  .simp only[Yv]at hx
   split at hx
   .subst x;cases hx
    exact⟨c,arr,el,by simp[ρ1,h1],h2,h3,fun j hj Y2=>RC.tree ((wac.1 YN) _ (Qf hj)) (h4 j hj Y2)⟩
   .cases hx
  .simp only[Yv]at hx
   split at hx
   .cases hx
   .simp[ρ1,‹¬x=PIN›]
  .obtain⟨_,rfl⟩:=hρ1 x n hx
   exact(hH.okR n hn).2 b h1
 have Ep:∀ {x:C} {v:Value},RC w ok ρ x v->RC w ok ρ1 (zef b x) v:=by
  intro x v hx;have YT:=hx.oneCell;cases hx with
  |t hx=>exact .t hx
  |ptr hx =>
   simp only[zef];split
   .subst_vars;exact .ptr (by simp[ρ1,hx])
   .exact .t (.junk YT)
  |vec hx g1 g2 g3 =>
   simp only[zef];split
   .subst_vars;exact .vec (by simp[ρ1,hx]) g1 g2 g3
   .exact .t (.junk YT)
  |fn _ _=>exact .t (.junk YT)
 have Er:∀ {x:AV} {v:Value},RA w ok ρ x v->RA w ok ρ1 (zie b x) v:=by
  intro x v hx;cases hx with
  |one hx=>exact .one (Ep hx)
  |agg g1 g2=>exact .agg (by simpa using g1) fun j hj Y2=>by simp only[Qq];exact Ep (g2 j (by simpa using hj) Y2)
  |iptr g1 g2 g3=>exact .iptr g1 g2 g3
  |tup _ _=>exact .junk
  |junk=>exact .junk
 have Vt:zaI w ok ρ1 args vs:=by
  rw[<-Xc];refine⟨by rw[Qm];exact hv.1,fun i hi Y6=>?_⟩;simp only[Qq];exact Er (hv.2 i (by simpa using hi) Y6)
 refine(h.2 ρ1 ok w vs X5 Vt).mono ?_;rintro e w' ⟨v,ρ2,ok2,rfl,Fl,XJ,g,hρ2⟩;obtain⟨c',arr',el',f1,f2,f3,f4⟩:=XJ.heap PIN cs' (by simp[Yv]);have Jj:c'=c:=by
  have:=hρ2 PIN c (by simp[ρ1,h1]);rw[this]at f1;exact(wa2 f1).symm
 subst Jj;have VB:∀ n,ok2 n->∀ x,ρ x≠some n:=fun n hn x hx=>by
  rcases g.down n hn with k|⟨b',k⟩|k
  .exact(hH.okR n k).2 x hx
  .obtain⟨_,rfl⟩:=hρ1 b' n k
   exact(XJ.okR n hn).2 PIN f1
  .have:n<w.heap.size:=by
    cases Eg:σ.H x with
    |none=>rw[hH.dom x Eg]at hx;cases hx
    |some csx =>
     obtain⟨cx,ax,ex,q1,q2,_⟩:=hH.heap x csx Eg;rw[hx]at q1;cases q1
     rcases wau n w.heap.size with h3|h3
     .exact h3
     .simp[wcv h3]at q2
   omega
 have hk:zah ok w w':=fun n hn=>g.same n (hH.okR n hn).1 fun x hx=>by
  obtain⟨_,rfl⟩:=hρ1 x n hx;exact(hH.okR n hn).2 b h1
 refine⟨v,ρ,ok2,rfl,hr _ _ _ _ _ (by rw[f1,h1]) Fl,⟨fun x cs2 hx=>?_,fun x hx=>?_,hH.inj,fun n hn=>⟨(XJ.okR n hn).1,VB n hn⟩⟩,⟨g.size,fun n hn hb'=>g.same n hn fun x hx=>?_,g.shape,fun x n hx=>.inl ⟨x,hx⟩,g.up,fun n hn=>?_,fun _ _=>.inl rfl,g.env⟩,fun _ _ h=>h⟩
 .simp only[upd]at hx
  split at hx
  .subst x;cases hx
   exact⟨c',arr',el',h1,f2,f3,fun j hj Y2=>RC.tree ((wac.1 VF) _ (Qf hj)) (f4 j hj Y2)⟩
  .rename_i hne
   obtain⟨cx,ax,ex,q1,q2,q3,q4⟩:=hH.heap x cs2 hx;have RQ:cx≠c':=fun e=>hne (hH.inj x b cx q1 (e▸h1))
   have Y1:cx<w.heap.size:=by
    rcases wau cx w.heap.size with h3|h3
    .exact h3
    .simp[wcv h3]at q2
   refine⟨cx,ax,ex,q1,by rw[g.same cx Y1 fun y hy=>RQ (hρ1 y cx hy).2];exact q2,q3,fun j hj Y2=>(q4 j hj Y2).mono hk g.up g.shape (fun _ _ h=>h)⟩
 .simp only[upd]at hx
  split at hx
  .cases hx
  .exact hH.dom x hx
 .obtain⟨_,rfl⟩:=hρ1 x n hx
  exact hb' b h1
 .rcases g.down n hn with k|⟨b',k⟩|k
  .exact .inl k
  .obtain⟨_,rfl⟩:=hρ1 b' n k
   exact .inr (.inl ⟨b,h1⟩)
  .exact .inr (.inr k)
@[go_sem] theorem mret1{σ:St}{rr:ResultVar}{r:AV}{cs:List C}:zh3 P [rr] r cs .ret σ=(zak P σ rr/\zaV P σ rr=r/\σ.H PIN=some cs):=by simp[zh3,zb6]
@[go_sem] theorem mret0n{σ:St}{r:AV}{cs:List C}:zh3 P [] r cs .normal σ=(undefA=r/\σ.H PIN=some cs):=by simp[zh3,zb6,undefA]
end
end Go.Abs
namespace Go.Abs
variable {P:Program} {m:Nat} {σ:St} {K:AV->St->Prop}
theorem RA.int_inv{w:World}{ok:Nat->Prop}{ρ:Nat->Option Nat}{k:IntKind}{n:Int}{v:Value}(h:RA w ok ρ (litI k n) v):v = .int k n:=by
 unfold litI at h;cases h with
 |one h=>cases h with|t h=>cases h;rfl
theorem zdQ{o:Oper}{x y:Operand}{ts:Array TypeId}(ho:o.op = .call { callee:=.builtin .max,args:=#[x,y],argTypes:=ts }){k:IntKind}{a b:Int}(hx:ev σ.s x=litI k a)(hy:ev σ.s y=litI k b)(hm:2<=m)
  (hK:K (litI k (if b>a then b else a)) σ):OpA P m o σ K:=by
 refine⟨_,σ,rfl,fun ρ ok a' w h=>?_,hK⟩;have h1:=Zm h x;rw[hx]at h1;have h2:=Zm h y;rw[hy]at h2;refine⟨.int k (if b>a then b else a),w,ρ,ok,?_,.one (.t (.lit rfl)),h,Goes.refl ρ ok w⟩;simp only[execOp,ho,resolve,Sem.run_bind,Sem.run_pure,Result.andThen,wcR,wat,waL,h1.int_inv,h2.int_inv];rfl
@[go_sem] theorem st_max{d:Option Nat}{ty:TypeId}{pos:String}{af:Array Edge}{g:Option (Nat×Bool)}{as:Array Operand}{ats:Array TypeId} :
  QV P m ⟨d,.call { callee:=.builtin .max,args:=as,argTypes:=ats },ty,pos,af,g⟩ σ K=OpA P m ⟨d,.call { callee:=.builtin .max,args:=as,argTypes:=ats },ty,pos,af,g⟩ σ K:=rfl
@[go_sem] theorem st_min{d:Option Nat}{ty:TypeId}{pos:String}{af:Array Edge}{g:Option (Nat×Bool)}{x y:Operand}{ats:Array TypeId} :
  QV P m ⟨d,.call { callee:=.builtin .min,args:=#[x,y],argTypes:=ats },ty,pos,af,g⟩ σ K=(zhY [ev σ.s x,ev σ.s y]/\K (zid [ev σ.s x,ev σ.s y]) σ):=rfl
@[go_sem] theorem zBH{k k':IntKind}{a b:Int}:zhY [litI k a,litI k' b]=(k=k'):=rfl
@[go_sem] theorem zCQ{k k':IntKind}{a b:Int}:zid [litI k a,litI k' b]=litI k (if b<a then b else a):=rfl
end Go.Abs
namespace Go.Abs
variable {P:Program}
inductive FzL(H:QE):List AV->List TV->Prop where
 |nil:FzL H [] []
 |cons {a:AV} {t:TV} {as:List AV} {ts:List TV}:FzA H a t->FzL H as ts->FzL H (a::as) (t::ts)
theorem FzL.len{H:QE}{as:List AV}{ts:List TV}(h:FzL H as ts):as.length=ts.length:=by
 induction h with
 |nil=>rfl
 |cons _ _ ih=>simp[ih]
theorem FzL.get{H:QE}{as:List AV}{ts:List TV}(h:FzL H as ts):∀ i (hi:i<as.length) (Y6:i<ts.length),FzA H as[i] ts[i]:=by
 induction h with
 |nil=>intro i hi;simp at hi
 |cons h _ ih =>
  intro i hi Y6;cases i with
  |zero=>exact h
  |succ i=>exact ih i (by simpa using hi) (by simpa using Y6)
theorem Q7.fz{f:FuncId}{tvs tvs':List TV}{r:TV}(hp:Q7 P f tvs r)(h:FzL noH (tvs'.map emb) tvs):Q7 P f tvs' r:=by
 refine⟨hp.1,fun ok w vs YB hv=>hp.2 ok w vs YB ⟨?_,fun i hi Y6=>?_⟩⟩
 .rw[hv.1,h.len];simp
 .have hH:HR noρ ok noH w:=⟨(fun b cs hb=>by cases hb),(fun _ _=>rfl),(fun _ _ _ h=>by cases h),fun n hn=>⟨YB n hn,(fun b h=>by cases h)⟩⟩
  have XV:i<tvs.length:=by simpa using hi
  have h1:i<(tvs'.map emb).length:=by rw[h.len];exact XV
  have h2:=(h.get i h1 XV).sound hH (hv.2 i h1 Y6);have e:zaJ ok noρ=ok:=by
   funext n;simp[zaJ,noρ]
  rw[e]at h2;simpa using h2
theorem zfe{f:FuncId}{as:List AV}{tvs' tvs:List TV}{r:TV}{m:Nat}{σ:St}{K:AV->St->Prop}(hp:Q7 P f tvs r)(Xc:as=tvs'.map emb)(h:FzL noH (tvs'.map emb) tvs)(hK:K (emb r) σ):ZM P m f as σ K:=Q2 (hp.fz h) Xc hK
theorem fzT{H:QE}{x:T}:FzA H (.one (.t x)) (.one x):=.one .t
theorem fzW{H:QE}{nl:Option Bool}{xs:List (List T)}:FzA H (.one (.t (.seq nl xs))) (.one (.seq none xs)):=.one .weak
end Go.Abs
