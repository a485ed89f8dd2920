/- At every input the call answers true and leaves its arguments as they were; no conditions. -/
import Derived.Test.YtlgjjcmljmjenaaGreatZa
import Derived.Orders
import Derived.Tactics
import Derived.Laws.Sem
import Derived.IntWalk
set_option linter.unusedSimpArgs false
set_option linter.unusedVariables false
set_option maxRecDepth 100000
namespace Go.Abs
inductive T where
 |lit (v:Value)
 |seq (nl:Option Bool) (xs:List (List T))
 |clo (f:FuncId) (caps:List (List T))
 |junk
 deriving Inhabited
def zcB:Value->Bool
 |.agg _|.tuple _=>false
 |_=>true
def scalar:Value->Bool
 |.bool _|.int _ _|.string _|.pointer none|.nilFunc|.nilIface=>true
 |_=>false
inductive RT(w:World)(ok:Nat->Prop):T->Value->Prop where
 |lit {v:Value}:scalar v=true->RT w ok (.lit v) v
 |junk {v:Value}:zcB v=true->RT w ok .junk v
 |seq {nl:Option Bool} {xs:List (List T)} {A:Option Addr} {n c sz:Nat} {u:Nat->Nat->Value} {blk off:Nat} :
   n=xs.length->n<=c->(A=none->c=0)->(nl=some true->A=none)->(nl=some false->A≠none) ->
   (∀ x∈xs,x.length=sz) ->
   (xs≠[]->A=some ⟨blk,off,none⟩/\ok blk) ->
   (∀ i (hi:i<xs.length) j,j<xs[i].length->w.cell? ⟨blk,off+(i*sz+j),none⟩=some (u i j)) ->
   (∀ i (hi:i<xs.length) j (hj:j<xs[i].length),RT w ok (xs[i][j]) (u i j)) ->
   RT w ok (.seq nl xs) (.slice A n c)
 |clo {f:FuncId} {caps:List (List T)} {vs:Array Value} {blk off:Nat->Nat} {u:Nat->Nat->Value} :
   vs.size=caps.length->(∀ i (_:i<caps.length) (h':i<vs.size),vs[i] = .pointer (some ⟨blk i,off i,none⟩)/\ok (blk i)) ->
   (∀ i (hi:i<caps.length) j,j<caps[i].length->w.cell? ⟨blk i,off i+j,none⟩=some (u i j)) ->
   (∀ i (hi:i<caps.length) j (hj:j<caps[i].length),RT w ok (caps[i][j]) (u i j)) ->
   RT w ok (.clo f caps) (.func (.func f) #[] vs)
inductive C where
 |t (x:T)
 |ptr (b off:Nat)
 |vec (b sz off len:Nat)
 |fn (f:FuncId) (caps:List (Nat×Nat))
 deriving Inhabited
def zlG(w:World)(c n:Nat):Prop:=∃ el,w.shape? c=some (el,n)
inductive RC(w:World)(ok:Nat->Prop)(ρ:Nat->Option Nat):C->Value->Prop where
 |t {x:T} {v:Value}:RT w ok x v->RC w ok ρ (.t x) v
 |ptr {b off c:Nat}:ρ b=some c->RC w ok ρ (.ptr b off) (.pointer (some ⟨c,off,none⟩))
 |vec {b sz off len cap c n:Nat}:ρ b=some c->len<=cap->zlG w c n->off+cap*sz<=n ->
   RC w ok ρ (.vec b sz off len) (.slice (some ⟨c,off,none⟩) len cap)
 |fn {f:FuncId} {caps:List (Nat×Nat)} {vs:Array Value}:vs.size=caps.length ->
   (∀ i (h:i<caps.length) (h':i<vs.size),∃ c,ρ caps[i].1=some c/\vs[i] = .pointer (some ⟨c,caps[i].2,none⟩)) ->
   RC w ok ρ (.fn f caps) (.func (.func f) #[] vs)
inductive AV where
 |one (c:C)
 |agg (cs:List C)
 |iptr (cs:List T)
 |tup (vs:List AV)
 |junk
 deriving Inhabited
inductive RA(w:World)(ok:Nat->Prop)(ρ:Nat->Option Nat):AV->Value->Prop where
 |one {c:C} {v:Value}:RC w ok ρ c v->RA w ok ρ (.one c) v
 |agg {cs:List C} {vs:Array Value}:vs.size=cs.length->(∀ j (h:j<cs.length) (h':j<vs.size),RC w ok ρ cs[j] vs[j])->RA w ok ρ (.agg cs) (.agg vs)
 |iptr {cs:List T} {blk off:Nat} {u:Nat->Value}:ok blk ->
   (∀ j,j<cs.length->w.cell? ⟨blk,off+j,none⟩=some (u j))->(∀ j (h:j<cs.length),RT w ok cs[j] (u j)) ->
   RA w ok ρ (.iptr cs) (.pointer (some ⟨blk,off,none⟩))
 |tup {xs:List AV} {vs:Array Value}:vs.size=xs.length->(∀ j (h:j<xs.length) (h':j<vs.size),RA w ok ρ xs[j] vs[j])->RA w ok ρ (.tup xs) (.tuple vs)
 |junk {v:Value}:RA w ok ρ .junk v
theorem zrL{v:Value}(h:scalar v=true):zcB v=true:=by
 cases v<;>first|rfl|simp[scalar]at h
theorem RT.oneCell{w:World}{ok:Nat->Prop}{x:T}{v:Value}(h:RT w ok x v):zcB v=true:=by
 cases h with
 |lit h=>exact zrL h
 |junk h=>exact h
 |seq=>rfl
 |clo=>rfl
theorem RC.oneCell{w:World}{ok:Nat->Prop}{ρ:Nat->Option Nat}{x:C}{v:Value}(h:RC w ok ρ x v):zcB v=true:=by
 cases h with
 |t h=>exact h.oneCell
 |ptr=>rfl
 |vec=>rfl
 |fn=>rfl
theorem zta{v:Value}(h:zcB v=true):v.cells=#[v]:=by
 cases v<;>first|rfl|simp[zcB]at h
abbrev PIN:Nat:=1000000
structure Goes(ρ:Nat->Option Nat)(ok:Nat->Prop)(w:World)(ρ':Nat->Option Nat)(ok':Nat->Prop)(w':World):Prop where
 size:w.heap.size<=w'.heap.size
 same:∀ n,n<w.heap.size->(∀ b,ρ b≠some n)->w'.heap[n]? = w.heap[n]?
 shape:∀ n el k,w.shape? n=some (el,k)->w'.shape? n=some (el,k)
 img:∀ b n,ρ' b=some n->(∃ b',ρ b'=some n)\/w.heap.size<=n
 up:∀ n,ok n->ok' n
 down:∀ n,ok' n->ok n\/(∃ b',ρ b'=some n)\/w.heap.size<=n
 pin:∀ b,PIN<=b->ρ' b=ρ b\/ρ' b=none
 env:w'.os=w.os/\w'.output=w.output
theorem Goes.refl(ρ:Nat->Option Nat)(ok:Nat->Prop)(w:World):Goes ρ ok w ρ ok w :=
 ⟨Qd _,fun _ _ _=>rfl,fun _ _ _ h=>h,fun b _ h=>.inl ⟨b,h⟩,fun _ h=>h,fun _ h=>.inl h,fun _ _=>.inl rfl,⟨rfl,rfl⟩⟩
theorem Goes.trans{ρ ρ₁ ρ₂:Nat->Option Nat}{ok ok₁ ok₂:Nat->Prop}{w w₁ w₂:World}(h:Goes ρ ok w ρ₁ ok₁ w₁)(h':Goes ρ₁ ok₁ w₁ ρ₂ ok₂ w₂):Goes ρ ok w ρ₂ ok₂ w₂ where
 size:=Qn h.size h'.size
 same n hn hb:=by
  rw[h'.same n (wbf hn h.size) (fun b hb'=>?_),h.same n hn hb];rcases h.img b n hb' with⟨b',h1⟩|h1
  .exact hb b' h1
  .omega
 shape n el k hs:=h'.shape n el k (h.shape n el k hs)
 img b n hb:=by
  rcases h'.img b n hb with⟨b',h1⟩|h1
  .exact h.img b' n h1
  .exact .inr (Qn h.size h1)
 up n hn:=h'.up n (h.up n hn)
 down n hn:=by
  rcases h'.down n hn with h1|⟨b',h1⟩|h1
  .exact h.down n h1
  .rcases h.img b' n h1 with h2|h2
   .exact .inr (.inl h2)
   .exact .inr (.inr h2)
  .exact .inr (.inr (Qn h.size h1))
 pin b hb:=by
  rcases h'.pin b hb with h1|h1
  .rw[h1];exact h.pin b hb
  .exact .inr h1
 env:=⟨h'.env.1.trans h.env.1,h'.env.2.trans h.env.2⟩
def zai(ok:Nat->Prop)(w w':World):Prop:=∀ n,ok n->w'.heap[n]? = w.heap[n]?
theorem zai.cell{ok:Nat->Prop}{w w':World}(h:zai ok w w'){a:Addr}(ha:ok a.block):w'.cell? a=w.cell? a:=by
 simp only[World.cell?,h _ ha]
theorem RT.mono{w w':World}{ok ok':Nat->Prop}(hk:zai ok w w')(VF:∀ n,ok n->ok' n){x:T}{v:Value}(h:RT w ok x v):RT w' ok' x v:=by
 induction h with
 |lit h=>exact .lit h
 |junk h=>exact .junk h
 |@seq nl xs A n c sz u blk off h1 h2 h0 h3 h4 h5 h6 h7 h8 ih =>
  refine .seq (u:=u) (blk:=blk) (off:=off) h1 h2 h0 h3 h4 h5 (fun hx=>⟨(h6 hx).1,VF _ (h6 hx).2⟩) (fun i hi j hj=>?_) (fun i hi j hj=>ih i hi j hj);have hx:xs≠[]:=by intro e;subst e;simp at hi
  exact(hk.cell (a:=⟨blk,_,none⟩) (h6 hx).2).trans (h7 i hi j hj)
 |@clo f caps vs blk off u h1 h2 h3 h4 ih =>
  refine .clo (u:=u) (blk:=blk) (off:=off) h1 (fun i hi Y6=>⟨(h2 i hi Y6).1,VF _ (h2 i hi Y6).2⟩) (fun i hi j hj=>?_) (fun i hi j hj=>ih i hi j hj);exact(hk.cell (a:=⟨blk i,_,none⟩) (h2 i hi (by omega)).2).trans (h3 i hi j hj)
theorem RC.mono{w w':World}{ok ok':Nat->Prop}{ρ ρ':Nat->Option Nat}(hk:zai ok w w')(VF:∀ n,ok n->ok' n)
  (hs:∀ n el k,w.shape? n=some (el,k)->w'.shape? n=some (el,k)) (hρ:∀ b c,ρ b=some c->ρ' b=some c) {x:C} {v:Value} (h:RC w ok ρ x v):RC w' ok' ρ' x v:=by
 cases h with
 |t h=>exact .t (h.mono hk VF)
 |ptr h=>exact .ptr (hρ _ _ h)
 |vec h h1 h2 h3=>exact .vec (hρ _ _ h) h1 (h2.imp fun el he=>hs _ _ _ he) h3
 |fn h h1=>exact .fn h fun i hi Y6=>let ⟨c,h2,h3⟩:=h1 i hi Y6;⟨c,hρ _ _ h2,h3⟩
theorem RA.mono{w w':World}{ok ok':Nat->Prop}{ρ ρ':Nat->Option Nat}(hk:zai ok w w')(VF:∀ n,ok n->ok' n)
  (hs:∀ n el k,w.shape? n=some (el,k)->w'.shape? n=some (el,k)) (hρ:∀ b c,ρ b=some c->ρ' b=some c) {x:AV} {v:Value} (h:RA w ok ρ x v):RA w' ok' ρ' x v:=by
 induction h with
 |one h=>exact .one (h.mono hk VF hs hρ)
 |agg h h1=>exact .agg h fun j hj Yz=>(h1 j hj Yz).mono hk VF hs hρ
 |iptr h1 h2 h3=>exact .iptr (VF _ h1) (fun j hj=>(hk.cell (a:=⟨_,_,none⟩) h1).trans (h2 j hj)) fun j hj=>(h3 j hj).mono hk VF
 |tup h _ ih=>exact .tup h fun j hj Yz=>ih j hj Yz
 |junk=>exact .junk
abbrev QD:=Nat->Option (List C)
structure St where
 n:Nat
 s:Nat->AV
 H:QD
def undefA:AV:=.tup []
def St.put(σ:St)(d:Nat)(v:AV):St:=⟨σ.n,fun t=>if t=d then v else σ.s t,σ.H⟩
def St.putO(σ:St)(d:Option Nat)(v:AV):St:=match d with|some d=>σ.put d v|none=>σ
def upd(H:QD)(b:Nat)(x:Option (List C)):QD:=fun n=>if n=b then x else H n
def St.withH(σ:St)(H:QD):St:=⟨σ.n,σ.s,H⟩
def zqW:TypeDesc->Bool
 |.struct _|.array _ _=>true
 |_=>false
def tdesc(P:Program)(t:TypeId):TypeDesc:=(P.underlying t).getD .invalid
def tsize(P:Program)(t:TypeId):Nat:=((P.info? t).map (·.size)).getD 0
def tbytes(P:Program)(t:TypeId):Nat:=((P.info? t).map (·.bytes)).getD 0
def tok(P:Program)(t:TypeId):Bool:=(P.info? t).isSome&&(P.underlying t).isSome
def tagg(P:Program)(t:TypeId):Bool:=zqW (tdesc P t)
def zjW:Value->Option T
 |.slice none 0 0=>some (.seq (some true) [])
 |v=>if scalar v then some (.lit v)else none
def zdi{α β:Type}(f:α->Option β):List α->Option (List β)
 |[]=>some []
 |a::l=>match f a,zdi f l with|some b,some m=>some (b::m)|_,_=>none
def zhP(vs:List Value):Option (List C):=(zdi zjW vs).map (·.map C.t)
def zd9:Value->AV
 |.agg cs=>match zhP cs.toList with|some l=>.agg l|none=>.junk
 |.func (.func f) first caps=>if first.size=0&&caps.size=0 then .one (.fn f [])else .junk
 |.tuple vs=>if vs.size=0 then .tup []else .junk
 |v=>match zjW v with|some x=>.one (.t x)|none=>.junk
def tzero(P:Program)(t:TypeId):Option (List C):=((P.info? t).bind (·.zero)).bind fun v=>zhP v.cells.toList
def telem(P:Program)(t:TypeId):TypeId:=match tdesc P t with|.slice e=>e|.array _ e=>e|.pointer e=>e|_=>0
def isSliceD:TypeDesc->Bool|.slice _=>true|_=>false
def isArrayD:TypeDesc->Bool|.array _ _=>true|_=>false
def arrLen:TypeDesc->Nat|.array n _=>n|_=>0
def zgi:TypeDesc->List (Nat×TypeId)|.struct fs=>fs.toList.map fun f=>(f.offset,f.type)|_=>[]
def isStructD:TypeDesc->Bool|.struct _=>true|_=>false
def foff(P:Program)(t:TypeId)(f:Nat):Nat:=(((zgi (tdesc P t))[f]?).map (·.1)).getD 0
def fty(P:Program)(t:TypeId)(f:Nat):TypeId:=(((zgi (tdesc P t))[f]?).map (·.2)).getD 0
def nfields(P:Program)(t:TypeId):Nat:=(zgi (tdesc P t)).length
def intD:TypeDesc->Option IntKind|.int k=>some k|_=>none
def ev(σ:Nat->AV):Operand->AV
 |.tmp t=>σ t
 |.const v=>zd9 v
 |.func f=>.one (.fn f [])
 |.global _=>.junk
def AV.boolOf:AV->Option Bool
 |.one (.t (.lit (.bool b)))=>some b
 |_=>none
def AV.intOf:AV->Option (IntKind×Int)
 |.one (.t (.lit (.int k n)))=>some (k,n)
 |_=>none
def AV.cellsOf:AV->Option (List C)
 |.one c=>some [c]
 |.agg cs=>some cs
 |_=>none
def ZJ(H:QD):AV->Option (List C)
 |.one (.ptr b off)=>(H b).map (·.drop off)
 |.iptr cs=>some (cs.map .t)
 |_=>none
def zcM:AV->Nat->AV
 |.one (.ptr b off),k=>.one (.ptr b (off+k))
 |.iptr cs,k=>.iptr (cs.drop k)
 |_,_=>.junk
def zba:AV->Bool
 |.one (.ptr _ _)=>true
 |.iptr _=>true
 |_=>false
def litI(k:IntKind)(n:Int):AV:=.one (.t (.lit (.int k n)))
def QO(b:Bool):AV:=.one (.t (.lit (.bool b)))
def zaQ(op:BinOp)(k:IntKind)(a b:Int):Option Value :=
 match op with
 |.add=>some (.int k (k.wrap (a+b)))
 |.sub=>some (.int k (k.wrap (a-b)))
 |.mul=>some (.int k (k.wrap (a*b)))
 |.quo=>some (.int k (k.wrap (Int.tdiv a b)))
 |.rem=>some (.int k (Int.tmod a b))
 |.eql=>some (.bool (decide (a=b)))
 |.neq=>some (.bool (decide (a≠b)))
 |.lss=>some (.bool (decide (a<b)))
 |.leq=>some (.bool (decide (a<=b)))
 |.gtr=>some (.bool (decide (b<a)))
 |.geq=>some (.bool (decide (b<=a)))
 |.shr=>if 0<=b then some (.int k (a.fdiv (2^min b.toNat k.bits)))else none
 |_=>none
def zjh(op:BinOp):Bool:=match op with|.quo|.rem=>true|_=>false
def zea(op:BinOp)(a b:ByteArray):Option AV :=
 match op with
 |.eql=>some (QO (a.toList==b.toList))
 |.neq=>some (QO (!(a.toList==b.toList)))
 |.lss=>some (QO (Op.bytesLess a.toList b.toList))
 |.leq=>some (QO (Op.bytesLess a.toList b.toList||a.toList==b.toList))
 |.gtr=>some (QO (!(Op.bytesLess a.toList b.toList||a.toList==b.toList)))
 |.geq=>some (QO (!(Op.bytesLess a.toList b.toList)))
 |.add=>if a.size+b.size<2^62 then some (.one (.t (.lit (.string (a++b)))))else none
 |_=>none
def zhy:TypeDesc->Bool|.pointer _=>true|_=>false
def zaR(op:BinOp):AV->AV->Option AV
 |.one (.t (.lit (.int k a))),.one (.t (.lit (.int k' b)))=>if k=k' then(zaQ op k a b).map fun v=>.one (.t (.lit v))else none
 |.one (.t (.lit (.bool a))),.one (.t (.lit (.bool b))) =>
  match op with|.eql=>some (QO (a==b))|.neq=>some (QO (!(a==b)))|_=>none
 |.one (.t (.lit (.string a))),.one (.t (.lit (.string b)))=>zea op a b
 |.one (.t (.seq (some n) _)),.one (.t (.seq (some true) [])) =>
  match op with|.eql=>some (QO n)|.neq=>some (QO (!n))|_=>none
 |.one (.vec _ _ _ _),.one (.t (.seq (some true) [])) =>
  match op with|.eql=>some (QO false)|.neq=>some (QO true)|_=>none
 |.iptr _,.one (.t (.lit (.pointer none))) =>
  match op with|.eql=>some (QO false)|.neq=>some (QO true)|_=>none
 |.one (.t (.lit (.pointer none))),.one (.t (.lit (.pointer none))) =>
  match op with|.eql=>some (QO true)|.neq=>some (QO false)|_=>none
 |_,_=>none
def zd2(op:BinOp):AV->Prop
 |.one (.t (.lit (.int _ b)))=>zjh op=true->b≠0
 |_=>True
def zcT(P:Program)(t:TypeId):AV->Prop
 |.one (.t (.lit (.bool _)))=>tok P t=true/\tdesc P t = .bool
 |.one (.t (.seq _ _))=>tok P t=true/\isSliceD (tdesc P t)=true
 |.one (.vec _ _ _ _)=>tok P t=true/\isSliceD (tdesc P t)=true
 |.iptr _=>tok P t=true/\zhy (tdesc P t)=true
 |.one (.t (.lit (.pointer none)))=>tok P t=true/\zhy (tdesc P t)=true
 |_=>True
def unV(op:UnOp):AV->Option AV
 |.one (.t (.lit (.bool a)))=>match op with|.not=>some (QO (!a))|_=>none
 |.one (.t (.lit (.int k a)))=>match op with|.neg=>some (litI k (k.wrap (0-a)))|_=>none
 |_=>none
def zfo:List (List T)->Option (List UInt8)
 |[]=>some []
 |[.lit (.int .u8 n)]::l=>(zfo l).map (UInt8.ofNat n.toNat::·)
 |_::_=>none
def zml(l:List UInt8):ByteArray:=l.foldl ByteArray.push ByteArray.empty
def zqX:TypeDesc->Bool|.string=>true|_=>false
def zrw:TypeDesc->Bool|.int .u8=>true|_=>false
def zeJ(P:Program)(src dst:TypeId):AV->Option AV
 |.one (.t (.lit (.int _ n)))=>(intD (tdesc P dst)).map fun k=>litI k (k.wrap n)
 |.one (.t (.seq _ xs))=>if isSliceD (tdesc P src)&&tok P (telem P src)&&zrw (tdesc P (telem P src))&&zqX (tdesc P dst)then(zfo xs).map fun l=>.one (.t (.lit (.string (zml l))))else none
 |_=>none
def AV.lenOf:AV->Option Nat
 |.one (.t (.seq _ xs))=>some xs.length
 |.one (.vec _ _ _ n)=>some n
 |.one (.t (.lit (.string s)))=>some s.size
 |_=>none
def zcA(sz:Nat):AV->Nat->AV
 |.one (.t (.seq _ xs)),i=>.iptr (xs.getD i [])
 |.one (.vec b _ off _),i=>.one (.ptr b (off+i*sz))
 |_,_=>.junk
def zdW(sz:Nat):AV->Nat->Prop
 |.one (.t (.seq _ xs)),i=>∀ x∈xs,x.length=sz
 |.one (.vec _ sz' _ _),_=>sz'=sz
 |_,_=>False
def zcN(sz:Nat):AV->Nat->Nat->AV
 |.one (.t (.seq nl xs)),lo,hi=>.one (.t (.seq nl ((xs.take hi).drop lo)))
 |.one (.vec b s off _),lo,hi=>.one (.vec b s (off+lo*sz) (hi-lo))
 |.one (.t (.lit (.string s))),lo,hi=>.one (.t (.lit (.string (s.extract lo hi))))
 |_,_,_=>.junk
def zhj(sz:Nat):AV->Prop
 |.one (.t (.seq _ xs))=>∀ x∈xs,x.length=sz
 |.one (.vec _ sz' _ _)=>sz'=sz
 |_=>False
def zex(P:Program)(t:TypeId):AV->Prop
 |.one (.t (.lit (.string _)))=>tdesc P t = .string
 |x=>isSliceD (tdesc P t)=true/\tok P (telem P t)=true/\zhj (tsize P (telem P t)) x
def zau(d:Nat):Option AV->Option Nat
 |none=>some d
 |some v=>match v.intOf with|some (_,n)=>if 0<=n then some n.toNat else none|none=>none
def Yh(base:List C)(off:Nat)(cs:List C):List C:=base.take off++cs++base.drop (off+cs.length)
def zaZ(place:Nat->Option (Nat×Nat))(base:List C):List (Nat×AV)->Option (List C)
 |[]=>some base
 |(i,v)::rest =>
  match place i,v.cellsOf with
  |some (off,size),some cs=>if cs.length=size/\off+size<=base.length then zaZ place (Yh base off cs) rest else none
  |_,_=>none
def placesA(P:Program)(t:TypeId)(i:Nat):Option (Nat×Nat) :=
 match tdesc P t with
 |.struct fs=>(fs[i]?).map fun f=>(f.offset,tsize P f.type)
 |.array _ e=>some (i*tsize P e,tsize P e)
 |_=>none
def zeB(P:Program)(t:TypeId)(parts:List (Nat×AV)):Option (List C) :=
 match tzero P t with
 |some z=>zaZ (placesA P t) z parts
 |none=>none
def zeP(cs:List C):Option (List T):=zdi (fun|.t x=>some x|_=>none) cs
def zaG(sz:Nat):Nat->List T->List (List T)
 |0,_=>[]
 |n+1,l=>l.take sz::zaG sz n (l.drop sz)
def Zg{α:Type}(n:Nat)(l:List α):List α:=(List.replicate n l).flatten
def zb8(P:Program)(t:TypeId)(n:Nat)(parts:List (Nat×AV)):Option AV :=
 let e:=telem P t
 match tzero P e with
 |some z=>match zaZ (fun i=>some (i*tsize P e,tsize P e)) (Zg n z) parts with
  |some cs=>(zeP cs).map fun ts=>.one (.t (.seq (some false) (zaG (tsize P e) n ts)))
  |none=>none
 |none=>none
def partsTok(P:Program)(t:TypeId):Bool :=
 match tdesc P t with
 |.struct fs=>fs.toList.all fun f=>tok P f.type
 |.array _ e=>tok P e
 |_=>false
def zgJ:Operand->Bool
 |.tmp n=>decide (n=5)||decide (n=104)
 |_=>false
def zeb:List (Nat×Operand)->Bool
 |[]=>false
 |p::_=>zgJ p.2
def Zh:Op->Bool
 |.move _|.assign _|.pick ..|.alloc _|.box ..|.build ..|.load ..|.store ..|.nilCheck _|.binOp ..|.unOp ..|.convert ..
 |.makeSlice ..|.slice ..|.fieldAddr ..|.field ..|.indexAddr ..|.index ..|.extract ..|.makeFunc ..=>true
 |.buildSlice _ n ps=>n != 0&&!zeb ps.toList
 |.call { callee:=.builtin .len,args,.. }=>args.size==1
 |.call { callee:=.builtin .min,args,.. }=>args.size==2
 |_=>false
def zhQ:List AV->Prop
 |[x,y]=>(match x.intOf,y.intOf with|some (k,_),some (k',_)=>k=k'|_,_=>False)
 |_=>False
def zh5:List AV->AV
 |[x,y]=>(match x.intOf,y.intOf with|some (k,a),some (_,b)=>.one (.t (.lit (.int k (if b<a then b else a))))|_,_=>.junk)
 |_=>.junk
def zcO:List AV->Option (List (Nat×Nat))
 |[]=>some []
 |.one (.ptr b off)::l=>(zcO l).map ((b,off)::·)
 |_::_=>none
def zcj(P:Program)(t:TypeId):AV->Prop
 |.one (.t (.lit (.string _)))=>tdesc P t = .string
 |.one (.t (.lit _))=>False
 |x=>isSliceD (tdesc P t)=true/\x.lenOf.isSome=true
section
variable (P:Program) (d:Nat) (e:Operand->AV) (H:QD)
def idx(x:AV):Nat:=match x.intOf with|some (_,n)=>n.toNat|none=>0
def zaC(x:AV)(n:Nat):Prop:=match x.intOf with|some (_,i)=>0<=i/\i<n|none=>False
def Zl:Op->Prop
 |.move _|.assign _=>True
 |.pick c _ _=>(e c).boolOf.isSome=true
 |.alloc t=>tok P t=true/\(tzero P t).isSome=true/\H d=none
 |.box _ x=>(e x).cellsOf.isSome=true/\H d=none
 |.build t parts=>tok P t=true/\partsTok P t=true/\(zeB P t (parts.toList.map fun p=>(p.1,e p.2))).isSome=true
 |.buildSlice t n parts=>tok P t=true/\isSliceD (tdesc P t)=true/\tok P (telem P t)=true/\n*tsize P (telem P t)<=2^24/\0<n*tsize P (telem P t)/\((tzero P (telem P t)).map (·.length))=some (tsize P (telem P t)) /\
   (zb8 P t n (parts.toList.map fun p=>(p.1,e p.2))).isSome=true
 |.load t a=>tok P t=true/\(ZJ H (e a)).isSome=true/\(if tagg P t then tsize P t else 1)<=((ZJ H (e a)).getD []).length
 |.store t a x=>tok P t=true/\(match e a with
   |.one (.ptr b off)=>(match H b,(e x).cellsOf with|some cs,some ns=>ns.length=tsize P t/\off+ns.length<=cs.length|_,_=>False)
   |_=>False)
 |.nilCheck x=>zba (e x)=true
 |.binOp op t x y _=>(zaR op (e x) (e y)).isSome=true/\zd2 op (e y)/\zcT P t (e x)
 |.unOp op _ x=>(unV op (e x)).isSome=true
 |.convert src dst x=>tok P src=true/\tok P dst=true/\(zeJ P src dst (e x)).isSome=true
 |.makeSlice t l c=>tok P t=true/\isSliceD (tdesc P t)=true/\tok P (telem P t)=true/\(tzero P (telem P t)).isSome=true/\((tzero P (telem P t)).getD []).length=tsize P (telem P t)/\0<tsize P (telem P t)/\H d=none /\
   (match (e l).intOf,(e c).intOf with
   |some (_,n),some (_,m)=>0<=n/\n<=m/\m<2^62/\tbytes P (telem P t)*m<=2^47
   |_,_=>False)
 |.slice t x lo hi mx=>mx.isNone=true/\tok P t=true/\zex P t (e x) /\
   (match (e x).lenOf with
   |some n=>(match zau 0 (lo.map e),zau n (hi.map e)with
    |some l,some h=>l<=h/\h<=n/\(match e x with|.one (.vec _ _ _ _)=>l=0\/l<h|_=>True)
    |_,_=>False)
   |none=>False)
 |.fieldAddr t x f=>tok P t=true/\isStructD (tdesc P t)=true/\f<nfields P t/\tok P (fty P t f)=true/\0<tsize P (fty P t f)/\zba (e x)=true
 |.field t x f=>tok P t=true/\isStructD (tdesc P t)=true/\f<nfields P t/\tok P (fty P t f)=true /\
   (match e x with|.agg cs=>(if tagg P (fty P t f)then foff P t f+tsize P (fty P t f)else foff P t f+1)<=cs.length|_=>False)
 |.indexAddr t x i=>tok P t=true/\tok P (telem P t)=true /\
   ((isSliceD (tdesc P t)=true/\zdW (tsize P (telem P t)) (e x) (idx (e i))/\(match (e x).lenOf with|some n=>zaC (e i) n|none=>False)) \/
   (isArrayD (tdesc P t)=true/\zba (e x)=true/\zaC (e i) (arrLen (tdesc P t))))
 |.index t x i=>tok P t=true /\
   ((isArrayD (tdesc P t)=true/\tok P (telem P t)=true/\zaC (e i) (arrLen (tdesc P t)) /\
    (match e x with|.agg cs=>idx (e i)*tsize P (telem P t)+(if tagg P (telem P t)then tsize P (telem P t)else 1)<=cs.length|_=>False)) \/
   (tdesc P t = .string/\(match e x with|.one (.t (.lit (.string s)))=>zaC (e i) s.size|_=>False)))
 |.extract t i=>(match e t with|.tup vs=>i<vs.length|_=>False)
 |.makeFunc fn first caps=>first.size=0/\(match fn with|.func _=>True|_=>False)/\(zcO (caps.toList.map e)).isSome=true
 |.call { callee:=.builtin .min,args,.. }=>zhQ (args.toList.map e)
 |.call c=>(match c.args[0]?,(c.argTypes[0]? : Option TypeId)with|some x,some t=>tok P t=true/\zcj P t (e x)|_,_=>False)
 |_=>False
def opV:Op->AV
 |.move x|.assign x=>e x
 |.pick c a b=>if(e c).boolOf=some true then e a else e b
 |.alloc _=>.one (.ptr d 0)
 |.box _ _=>.one (.ptr d 0)
 |.build t parts=>.agg ((zeB P t (parts.toList.map fun p=>(p.1,e p.2))).getD [])
 |.buildSlice t n parts=>(zb8 P t n (parts.toList.map fun p=>(p.1,e p.2))).getD .junk
 |.load t a=>if tagg P t then .agg (((ZJ H (e a)).getD []).take (tsize P t))else .one (((ZJ H (e a)).getD []).headD default)
 |.nilCheck x=>e x
 |.binOp op _ x y _=>(zaR op (e x) (e y)).getD .junk
 |.unOp op _ x=>(unV op (e x)).getD .junk
 |.convert src dst x=>(zeJ P src dst (e x)).getD .junk
 |.makeSlice t l _=>.one (.vec d (tsize P (telem P t)) 0 (idx (e l)))
 |.slice t x lo hi _=>zcN (tsize P (telem P t)) (e x) ((zau 0 (lo.map e)).getD 0) ((zau ((e x).lenOf.getD 0) (hi.map e)).getD 0)
 |.fieldAddr t x f=>zcM (e x) (foff P t f)
 |.field t x f=>(match e x with|.agg cs=>if tagg P (fty P t f)then .agg ((cs.drop (foff P t f)).take (tsize P (fty P t f)))else .one ((cs.drop (foff P t f)).headD default)|_=>.junk)
 |.indexAddr t x i=>if isSliceD (tdesc P t)then zcA (tsize P (telem P t)) (e x) (idx (e i))else zcM (e x) (idx (e i)*tsize P (telem P t))
 |.index t x i=>(match e x with
   |.agg cs=>if tagg P (telem P t)then .agg ((cs.drop (idx (e i)*tsize P (telem P t))).take (tsize P (telem P t)))else .one ((cs.drop (idx (e i)*tsize P (telem P t))).headD default)
   |.one (.t (.lit (.string s)))=>litI .u8 (s[idx (e i)]!).toNat
   |_=>.junk)
 |.extract t i=>(match e t with|.tup vs=>vs.getD i .junk|_=>.junk)
 |.makeFunc fn _ caps=>(match fn with|.func f=>.one (.fn f ((zcO (caps.toList.map e)).getD []))|_=>.junk)
 |.call { callee:=.builtin .min,args,.. }=>zh5 (args.toList.map e)
 |.call c=>litI .i64 (((c.args[0]?).bind fun x=>(e x).lenOf).getD 0:Nat)
 |_=>undefA
def opH:Op->QD
 |.alloc t=>upd H d (tzero P t)
 |.box _ x=>upd H d (e x).cellsOf
 |.makeSlice t l _=>upd H d (some (Zg (idx (e l)) ((tzero P (telem P t)).getD [])))
 |.store _ a x=>(match e a with
   |.one (.ptr b off)=>upd H b (some (Yh ((H b).getD []) off ((e x).cellsOf.getD [])))
   |_=>H)
 |_=>H
end
inductive TV where
 |one (t:T)
 |agg (ts:List T)
 |tup (xs:List TV)
 |ip (ts:List T)
 deriving Inhabited
def emb:TV->AV
 |.one t=>.one (.t t)
 |.agg ts=>.agg (ts.map .t)
 |.tup xs=>.tup (embs xs)
 |.ip ts=>.iptr ts
where embs:List TV->List AV
 |[]=>[]
 |x::l=>emb x::embs l
def noρ:Nat->Option Nat:=fun _=>none
def zaH(w:World)(ok:Nat->Prop)(ρ:Nat->Option Nat)(xs:List AV)(vs:Array Value):Prop :=
 vs.size=xs.length/\∀ i (h:i<xs.length) (h':i<vs.size),RA w ok ρ xs[i] vs[i]
def Q9(P:Program)(f:FuncId)(args:List TV)(r:TV):Prop :=
 (∀ (as:Array Value) w,(callFunc f as).run P w = .ok (.enter f as) w) /\
 ∀ (ok:Nat->Prop) (w:World) (vs:Array Value),(∀ n,ok n->n<w.heap.size)->zaH w ok noρ (args.map emb) vs ->
  Calls P f vs w fun e w'=>∃ v ok',e = .returned v/\RA w' ok' noρ (emb r) v/\Goes noρ ok w noρ ok' w'/\∀ n,ok' n->n<w'.heap.size
structure HR(ρ:Nat->Option Nat)(ok:Nat->Prop)(H:QD)(w:World):Prop where
 heap:∀ b cs,H b=some cs->∃ c arr el,ρ b=some c/\w.heap[c]? = some (.cells arr el (0,0))/\cs.length<=arr.size /\
  ∀ j (h:j<cs.length) (h':j<arr.size),RC w ok ρ cs[j] arr[j]
 dom:∀ b,H b=none->ρ b=none
 inj:∀ b b' c,ρ b=some c->ρ b'=some c->b=b'
 okR:∀ n,ok n->n<w.heap.size/\∀ b,ρ b≠some n
structure SR(ρ:Nat->Option Nat)(ok:Nat->Prop)(σ:St)(a:Act)(w:World):Prop extends HR ρ ok σ.H w where
 size:a.tmps.size=σ.n
 slots:∀ t,RA w ok ρ (σ.s t) (a.tmps.getD t undef)
 defers:a.defers=[]
 small:σ.n<=PIN
def Zf(P:Program)(f:FuncId)(args:List AV)(H:QD)(r:AV)(H':QD):Prop :=
 (∀ (as:Array Value) w,(callFunc f as).run P w = .ok (.enter f as) w) /\
 ∀ ρ ok w vs,HR ρ ok H w->zaH w ok ρ args vs ->
  Calls P f vs w fun e w'=>∃ v ρ' ok',e = .returned v/\RA w' ok' ρ' r v/\HR ρ' ok' H' w'/\Goes ρ ok w ρ' ok' w'/\∀ b c,ρ b=some c->ρ' b=some c
def zrB(P:Program)(f:FuncId)(args:List AV)(σ:St)(r:AV)(σ':St):Prop :=
 (∀ (as:Array Value) w,(callFunc f as).run P w = .ok (.enter f as) w) /\
 ∀ ρ ok a w vs,SR ρ ok σ a w->zaH w ok ρ args vs ->
  Calls P f vs w fun e w'=>∃ v ρ' ok',e = .returned v/\RA w' ok' ρ' r v/\SR ρ' ok' σ' a w'/\Goes ρ ok w ρ' ok' w'
def zdj(P:Program)(o:Oper)(σ:St)(r:AV)(σ':St):Prop :=
 ∀ ρ ok a w,SR ρ ok σ a w->∃ v w' ρ' ok',(execOp a.eval o).run P w = .ok (.value v) w'/\RA w' ok' ρ' r v/\SR ρ' ok' σ' a w'/\Goes ρ ok w ρ' ok' w'
def GStep(σ σ':St):Prop:=∀ ρ ok a w,SR ρ ok σ a w->∃ ρ' ok',SR ρ' ok' σ' a w/\Goes ρ ok w ρ' ok' w
def RdC(P:Program)(f:FuncId)(args:List AV)(H:QD)(r:AV):Prop:=∀ H',(∀ b cs,H b=some cs->H' b=some cs)->Zf P f args H' r H'
def ZK(P:Program)(m:Nat)(f:FuncId)(args:List AV)(σ:St)(K:AV->St->Prop):Prop :=
 (∃ tvs r,args=tvs.map emb/\Q9 P f tvs r/\K (emb r) σ)\/((m=1\/m=2)/\∃ r H',Zf P f args σ.H r H'/\K r (σ.withH H'))\/(m=2/\∃ r σ',σ'.n=σ.n/\zrB P f args σ r σ'/\K r σ')\/(m=3/\∃ r,RdC P f args σ.H r/\K r σ)
def OpA(P:Program)(_m:Nat)(o:Oper)(σ:St)(K:AV->St->Prop):Prop :=
 ∃ r σ',σ'.n=σ.n/\zdj P o σ r σ'/\K r σ'
def zjX(p:Nat×Nat):AV:=.one (.ptr p.1 p.2)
def zdb:AV->Option (FuncId×List AV)
 |.one (.fn f caps)=>some (f,caps.map zjX)
 |.one (.t (.clo f caps))=>some (f,caps.map AV.iptr)
 |_=>none
def zaM(P:Program)(m:Nat)(f:AV)(args:List AV)(σ:St)(K:AV->St->Prop):Prop :=
 match zdb f with
 |some (f,caps)=>ZK P m f (args++caps) σ K
 |none=>False
def zak(P:Program)(d:Nat)(op:Op)(σ:St)(K:AV->St->Prop):Prop :=
 Zl P d (ev σ.s) σ.H op/\K (opV P d (ev σ.s) σ.H op) (σ.withH (opH P d (ev σ.s) σ.H op))
def QW(P:Program)(m:Nat)(o:Oper)(σ:St)(K:AV->St->Prop):Prop :=
 match o.op with
 |.call { callee:=.value f,args,argTypes:=_ }=>zaM P m (ev σ.s f) (args.toList.map (ev σ.s)) σ K
 |op=>if Zh op then zak P (o.dst.getD 0) op σ K else OpA P m o σ K
def BR(c:Option Bool)(p q:Prop):Prop :=
 match c with
 |some true=>p
 |some false=>q
 |none=>False
def zdk:List Oper->Nat->Option Tmp
 |[],_=>none
 |o::_,0=>o.dst
 |_::l,n+1=>zdk l n
def zhR:AV->Bool->Option Bool
 |.one (.t (.lit (.bool b))),want=>some (b==want)
 |.tup [],_=>some false
 |_,_=>none
def zhS(s:Nat->AV)(want:Bool):Option Tmp->Option Bool
 |none=>some false
 |some t=>zhR (s t) want
def zbz(ops:List Oper)(σ:St):Option (Nat×Bool)->Option Bool
 |none=>some true
 |some (j,want)=>zhS σ.s want (zdk ops j)
def zbd(n:Nat):Option Tmp->Bool
 |some d=>decide (d<n)
 |none=>true
def Yf(P:Program)(m:Nat)(ops:List Oper)(Q:St->Prop):List Oper->St->Prop
 |[],σ=>Q σ
 |o::rest,σ=>zbd σ.n o.dst=true /\
   BR (zbz ops σ o.guard) (QW P m o σ fun v σ'=>Yf P m ops Q rest (σ'.putO o.dst v)) (Yf P m ops Q rest (σ.putO o.dst undefA))
inductive Cls where|pure|alloc|load|write|full|rd deriving DecidableEq
def QZ(m:Nat):Op->Cls
 |.alloc _|.box ..|.makeSlice ..=>.alloc
 |.load ..=>.load
 |.store ..=>.write
 |.call { callee:=.value _,.. }=>if m=0 then .pure else if m=1 then .write else if m=3 then .rd else .full
 |op=>if Zh op then .pure else .full
def zbN:Cls->Cls->Bool
 |.full,_=>false
 |_,.full=>false
 |.pure,_=>true
 |_,.pure=>true
 |.alloc,.alloc=>true
 |.load,.alloc=>true
 |.load,.load=>true
 |.rd,.alloc=>true
 |.rd,.load=>true
 |.load,.rd=>true
 |.rd,.rd=>true
 |_,_=>false
def zfp(m:Nat)(ops:Array Oper)(x y:Oper):Bool:=x.apart ops y&&zbN (QZ m x.op) (QZ m y.op)
def zdl(ops:Array Oper):Nat->Nat->Nat->Bool
 |0,_,_=>false
 |f+1,k,i=>match ops[i]? with
  |some o=>o.after.toList.any fun e=>Region.binds .any e&&(e.on==k||zdl ops f k e.on)
  |none=>false
def zhb(ops:Array Oper)(i:Nat):Bool :=
 match ops[i]? with
 |some o=>o.after.toList.all fun e=>!Region.binds .any e||decide (e.on<i)
 |none=>true
def ordOk(m:Nat)(ops:Array Oper):Bool :=
 (List.range ops.size).all fun i=>zhb ops i&&(List.range i).all fun k =>
  match ops[k]?,ops[i]? with
  |some x,some y=>zfp m ops x y||zdl ops (i+1) k i
  |_,_=>false
def zjP(bl:List (Nat×Nat))(t:Nat):Option Nat:=(bl.find? fun p=>p.1==t).map (·.2)
def zjQ(bl:List (Nat×Nat))(t t':Nat):Bool :=
 match zjP bl t,zjP bl t' with
 |some b,some b'=>b != b'
 |_,_=>false
def zdO(bl:List (Nat×Nat)):Op->Op->Bool
 |.load _ (.tmp t),.store _ (.tmp t') _=>zjQ bl t t'
 |.store _ (.tmp t') _,.load _ (.tmp t)=>zjQ bl t t'
 |_,_=>false
def zfq(m:Nat)(bl:List (Nat×Nat))(ops:Array Oper)(x y:Oper):Bool:=x.apart ops y&&(zbN (QZ m x.op) (QZ m y.op)||zdO bl x.op y.op)
def zbF(m:Nat)(bl:List (Nat×Nat))(o:Oper):Bool:=bl.isEmpty||(QZ m o.op != .full&&bl.all fun p=>o.dst != some p.1)
def zjz(m:Nat)(bl:List (Nat×Nat))(ops:Array Oper):Bool :=
 (ops.toList.all (zbF m bl))&&(List.range ops.size).all fun i=>zhb ops i&&(List.range i).all fun k =>
  match ops[k]?,ops[i]? with
  |some x,some y=>zfq m bl ops x y||zdl ops (i+1) k i
  |_,_=>false
def zcP(tk:List Nat)(m:Nat)(bl:List (Nat×Nat))(ops:Array Oper):Bool :=
 (ops.toList.all (zbF m bl))&&(List.range ops.size).all fun i=>tk.contains i||(zhb ops i&&(List.range i).all fun k=>tk.contains k ||
  match ops[k]?,ops[i]? with
  |some x,some y=>zfq m bl ops x y||zdl ops (i+1) k i
  |_,_=>false)
theorem zs0{m:Nat}{bl:List (Nat×Nat)}{ops:Array Oper}(h:zjz m bl ops=true):zcP [] m bl ops=true:=by
 unfold zjz at h;unfold zcP;simpa using h
def zaN(bl:List (Nat×Nat))(σ:St):Prop:=∀ p∈bl,∃ o,σ.s p.1 = .one (.ptr p.2 o)
def QN(P:Program)(ops:Array Oper)(q:St->Prop)(fuel:Nat)(listed:Array Bool)(σ:St):Prop :=
 ∀ ρ ok a w,SR ρ ok σ a w->∀ Q':Exit->Act->World->Prop,(∀ c a w,¬Q' (.panic c) a w)->(∀ σ' ρ' ok' a' w',q σ'->SR ρ' ok' σ' a' w'->Goes ρ ok w ρ' ok' w'->Q' .normal a' w')->wpAny P .any ops Q' fuel listed a w
def zgK(P:Program)(ops:Array Oper)(Q:St->Prop)(σ:St):Prop :=
 (∃ m bl σ',GStep σ σ'/\zjz m bl ops=true/\zaN bl σ'/\Yf P m ops.toList Q ops.toList σ')\/QN P ops Q ops.size (Array.replicate ops.size false) σ
def zec(K:St->Prop)(Q:Exit->St->Prop):Exit->St->Prop
 |.normal,σ=>K σ
 |e,σ=>Q e σ
def zfr(id:Nat)(Q:Exit->St->Prop):Exit->St->Prop
 |.exit id',σ=>if id'=id then Q .normal σ else Q (.exit id') σ
 |e,σ=>Q e σ
def zdm(B:(Exit->St->Prop)->St->Prop)(Q:Exit->St->Prop):Nat->St->Prop
 |0,_=>False
 |k+1,σ=>∃ σ',GStep σ σ'/\B (zec (zdm B Q k) Q) σ'
def zmo(B:(Exit->St->Prop)->St->Prop)(Q:Exit->St->Prop)(σ:St):Prop:=∃ k,zdm B Q k σ
def wpA(P:Program):Code->(Exit->St->Prop)->St->Prop
 |.skip,Q,σ=>Q .normal σ
 |.region _ ops draw,Q,σ=>if draw then zgK P ops (Q .normal) σ else Yf P 2 ops.toList (Q .normal) ops.toList σ
 |.seq a b,Q,σ=>wpA P a (zec (wpA P b Q) Q) σ
 |.cond c x y,Q,σ=>BR (ev σ.s c).boolOf (wpA P x Q σ) (wpA P y Q σ)
 |.block id c,Q,σ=>wpA P c (zfr id Q) σ
 |.loop c,Q,σ=>zmo (wpA P c) Q σ
 |.exit id,Q,σ=>Q (.exit id) σ
 |.ret,Q,σ=>Q .ret σ
 |_,_,_=>False
section
variable {P:Program} {w:World}
theorem ZE{t:TypeId}(h:tok P t=true):(underlying t).run P w = .ok (tdesc P t) w:=by
 simp only[tok,wag,wba]at h;obtain⟨_,d,hd⟩:=h;simp[underlying,program,tdesc,hd,Sem.run,bind,Sem.bind,pure]
theorem zeg{t:TypeId}(h:tok P t=true):∃ i,P.info? t=some i/\(typeInfo t).run P w = .ok i w:=by
 simp only[tok,wag,wba]at h;obtain⟨⟨i,hi⟩,_⟩:=h;exact⟨i,hi,by simp[typeInfo,program,hi,Sem.run,bind,Sem.bind,pure]⟩
theorem zaz{t:TypeId}(h:tok P t=true):(sizeOf t).run P w = .ok (tsize P t) w:=by
 obtain⟨i,hi,hr⟩:=zeg (w:=w) h;unfold Go.sizeOf;rw[Sem.run_bind,hr];simp[Result.andThen,tsize,hi]
theorem zno{t:TypeId}(h:tok P t=true):(isAgg t).run P w = .ok (tagg P t) w:=by
 unfold isAgg;rw[Sem.run_bind,ZE h];simp only[Result.andThen,tagg];cases tdesc P t<;>simp[zqW]
theorem zee{t:TypeId}{z:Value}(h:tok P t=true)(hz:(P.info? t).bind (·.zero)=some z):(zeroValue t).run P w = .ok z w:=by
 obtain⟨i,hi,hr⟩:=zeg (w:=w) h;unfold zeroValue;rw[Sem.run_bind,hr];simp[hi]at hz;simp[Result.andThen,hz]
theorem zcG(c off n:Nat):(⟨c,off,none⟩:Addr).add n=⟨c,off+n,none⟩:=by
 unfold Addr.add;split<;>simp[*]
theorem zoe{a:Addr}{v:Value}(h:w.cell? a=some v):(load a).run P w = .ok v w:=by
 simp[load,Sem.run,h]
theorem zrH{c off:Nat}(u:Nat->Value):∀ (n i:Nat) (acc:Array Value),(∀ j,j<n->w.cell? ⟨c,off+(i+j),none⟩=some (u (i+j))) ->
  (loadCellsFrom ⟨c,off,none⟩ i n acc).run P w = .ok (acc++((List.range n).map fun j=>u (i+j)).toArray) w:=by
 intro n
 induction n with
 |zero=>intro i acc _;simp[loadCellsFrom]
 |succ n ih =>
  intro i acc h;unfold loadCellsFrom;rw[Sem.run_bind,zcG,zoe (v:=u i) (by simpa using h 0 (by omega))];simp only[Result.andThen];rw[ih (i+1) _ (fun j hj=>by have:=h (j+1) (by omega);rw[show i+1+j=i+(j+1) by omega];exact this)];congr 1;rw[List.range_succ_eq_map];simp[wbg,wcX 1,Function.comp_def]
theorem zeQ{c off n:Nat}(u:Nat->Value)(h:∀ j,j<n->w.cell? ⟨c,off+j,none⟩=some (u j)) :
  (loadCells ⟨c,off,none⟩ n).run P w = .ok ((List.range n).map u).toArray w:=by
 unfold loadCells;rw[zrH u n 0 #[] (by simpa using h)];simp
theorem zmO{t:TypeId}(ht:tok P t=true){c off:Nat}(u:Nat->Value)(h:∀ j,j<(if tagg P t then tsize P t else 1)->w.cell? ⟨c,off+j,none⟩=some (u j)) :
  (loadVar t ⟨c,off,none⟩).run P w = .ok (if tagg P t then .agg ((List.range (tsize P t)).map u).toArray else u 0) w:=by
 unfold loadVar;rw[Sem.run_bind,zno ht];simp only[Result.andThen];cases hg:tagg P t with
 |true =>
  simp only[hg,if_true]at h;simp only[if_true];rw[Sem.run_bind,zaz ht];simp only[Result.andThen];rw[Sem.run_bind,zeQ u h];simp[Result.andThen]
 |false =>
  simp only[hg,wa4,if_false]at h;simp only[wa4,if_false];exact zoe (by simpa using h 0 (by omega))
end
theorem zpt{w:World}{ok:Nat->Prop}{v:Value}{x:T}(h:zjW v=some x):RT w ok x v:=by
 unfold zjW at h;split at h
 .cases h
  exact .seq (sz:=0) (u:=fun _ _=>default) (blk:=0) (off:=0) rfl (Qd _) (fun _=>rfl) (fun _=>rfl) (fun h=>by cases h) (fun x hx=>by cases hx) (fun h=>Qo rfl h) (fun i hi=>by simp at hi) (fun i hi=>by simp at hi)
 .split at h
  .cases h;exact .lit ‹_›
  .cases h
theorem zj2{α β:Type}{f:α->Option β}:∀ {l:List α} {m:List β},zdi f l=some m->m.length=l.length
 |[],m,h=>by simp[zdi]at h;subst h;rfl
 |a::l,m,h=>by
  unfold zdi at h;split at h
  .cases h;rename_i b m' _ hm;simp[zj2 hm]
  .cases h
theorem zkp{α β:Type}{f:α->Option β}:∀ {l:List α} {m:List β},zdi f l=some m->∀ i (h:i<l.length) (h':i<m.length),f l[i]=some m[i]
 |[],m,h=>by intro i hi;simp at hi
 |a::l,m,h=>by
  unfold zdi at h;split at h
  .cases h
   rename_i b m' hb hm;intro i hi Y6;cases i with
   |zero=>simpa using hb
   |succ i=>simpa using zkp hm i (by simpa using hi) (by simpa using Y6)
  .cases h
theorem zcb{w:World}{ok:Nat->Prop}{ρ:Nat->Option Nat}{vs:List Value}{cs:List C}(h:zhP vs=some cs) :
  cs.length=vs.length/\∀ j (h:j<cs.length) (h':j<vs.length),RC w ok ρ cs[j] vs[j]:=by
 unfold zhP at h;simp only[wbq]at h;obtain⟨l,hl,rfl⟩:=h;refine⟨by simp[zj2 hl],fun j hj Yz=>?_⟩;have X1:j<l.length:=by simpa using hj
 simpa using RC.t (zpt (zkp hl j Yz X1))
theorem zwH{w:World}{ok:Nat->Prop}{ρ:Nat->Option Nat}(v:Value):RA w ok ρ (zd9 v) v:=by
 unfold zd9;split
 .split
  .rename_i cs l h
   obtain⟨h1,h2⟩:=zcb (w:=w) (ok:=ok) (ρ:=ρ) h;exact .agg (by simpa using h1.symm) fun j hj Yz=>by have:=h2 j hj (by simpa using Yz);rwa[wbO]at this
  .exact .junk
 .split
  .rename_i f first caps h
   simp only[wag,way]at h;obtain⟨h1,h2⟩:=h;obtain rfl:first=#[]:=wdq h1;exact .one (.fn (by simpa using h2) fun i hi=>by simp at hi)
  .exact .junk
 .split
  .rename_i vs h
   exact .tup (by simpa using h) fun j hj=>by simp at hj
  .exact .junk
 .split
  .rename_i h;exact .one (.t (zpt h))
  .exact .junk
theorem Zj{ρ:Nat->Option Nat}{ok:Nat->Prop}{σ:St}{a:Act}{w:World}(h:SR ρ ok σ a w)(x:Operand):RA w ok ρ (ev σ.s x) (a.eval x):=by
 cases x with
 |tmp t=>exact h.slots t
 |const v=>exact zwH v
 |func f=>exact .one (.fn rfl fun i hi=>by simp at hi)
 |global g=>exact .junk
theorem SR.lift{ρ ρ':Nat->Option Nat}{ok ok':Nat->Prop}{σ:St}{a:Act}{w w':World}(h:SR ρ ok σ a w)(hk:zai ok w w')(VF:∀ n,ok n->ok' n)
  (hs:∀ n el k,w.shape? n=some (el,k)->w'.shape? n=some (el,k)) (hρ:∀ b c,ρ b=some c->ρ' b=some c) (t:Nat):RA w' ok' ρ' (σ.s t) (a.tmps.getD t undef) :=
 (h.slots t).mono hk VF hs hρ
theorem SR.putA{ρ:Nat->Option Nat}{ok:Nat->Prop}{σ:St}{a:Act}{w:World}(h:SR ρ ok σ a w){d:Option Nat}{x:AV}{v:Value}(hd:zbd σ.n d=true)(hx:RA w ok ρ x v) :
  SR ρ ok (σ.putO d x) (a.put d v) w:=by
 cases d with
 |none=>exact h
 |some d =>
  have Yw:d<a.tmps.size:=by rw[h.size];simpa[zbd]using hd
  refine⟨h.toHR,by simp[Act.put,St.putO,St.put,h.size],fun t=>?_,h.defers,h.small⟩;simp only[St.putO,St.put,Act.put];by_cases Lf:t=d
  .subst Lf;simp[Yw,hx]
  .have:=h.slots t
   simp only[Lf,if_false];have e:(a.tmps.setIfInBounds d v).getD t undef=a.tmps.getD t undef:=by
    simp[wd8 (Ne.symm Lf)]
   rw[e];exact this
theorem zdB{ok:Nat->Prop}{w:World}{o:Obj}(h:∀ n,ok n->n<w.heap.size):zai ok w { w with heap:=w.heap.push o }:=by
 intro n hn;have:=h n hn;simp[wb9,wca this]
theorem zc3{w:World}{o:Obj}:∀ n el k,w.shape? n=some (el,k)->({ w with heap:=w.heap.push o }:World).shape? n=some (el,k):=by
 intro n el k h;have hn:n<w.heap.size:=by
  rcases was n w.heap.size with h1|h1
  .exact h1
  .simp[World.shape?,wcr h1]at h
 unfold World.shape? at *
 simpa[wb9,wca hn]using h
def ext(ρ:Nat->Option Nat)(d:Nat)(c:Option Nat):Nat->Option Nat:=fun b=>if b=d then c else ρ b
theorem SR.push{ρ:Nat->Option Nat}{ok:Nat->Prop}{σ:St}{a:Act}{w:World}(h:SR ρ ok σ a w){d:Nat}(XD:d<PIN)(hd:σ.H d=none){cs:List C}{arr:Array Value}{el:TypeId}
  (Y0:cs.length<=arr.size) (hc:∀ j (hj:j<cs.length) (Yz:j<arr.size),RC w ok ρ cs[j] arr[j]) :
  SR (ext ρ d (some w.heap.size)) ok (σ.withH (upd σ.H d (some cs))) a { w with heap:=w.heap.push (.cells arr el) } /\
  Goes ρ ok w (ext ρ d (some w.heap.size)) ok { w with heap:=w.heap.push (.cells arr el) }:=by
 have YA:∀ n,ok n->n<w.heap.size:=fun n hn=>(h.okR n hn).1
 have hρd:=h.dom d hd;have hρ:∀ b c,ρ b=some c->ext ρ d (some w.heap.size) b=some c:=fun b c hb=>by
  unfold ext;split
  .subst b;rw[hρd]at hb;cases hb
  .exact hb
 have Yb:∀ b c,ρ b=some c->c<w.heap.size:=fun b c hb=>by
  cases hH:σ.H b with
  |none=>rw[h.dom b hH]at hb;cases hb
  |some cs =>
   obtain⟨c',arr',el',h1,h2,_⟩:=h.heap b cs hH;rw[hb]at h1;cases h1
   rcases was c w.heap.size with h3|h3
   .exact h3
   .simp[wcr h3]at h2
 refine⟨⟨⟨fun b cs' hb=>?_,fun b hb=>?_,fun b b' c h1 h2=>?_,fun n hn=>⟨?_,fun b hb=>?_⟩⟩,h.size,fun t=>h.lift (zdB YA) (fun _ h=>h) zc3 hρ t,h.defers,h.small⟩,⟨?_,?_,zc3,?_,fun _ h=>h,fun _ h=>.inl h,fun b hb=>.inl (by unfold ext;rw[Qb (by omega)]),⟨rfl,rfl⟩⟩⟩
 .simp only[St.withH,upd]at hb
  split at hb
  .subst b;cases hb
   refine⟨w.heap.size,arr,el,by simp[ext],by simp,Y0,fun j hj Yz=>?_⟩;exact(hc j hj Yz).mono (zdB YA) (fun _ h=>h) zc3 hρ
  .obtain⟨c,arr',el',h1,h2,h3,h4⟩:=h.heap b cs' hb
   refine⟨c,arr',el',hρ _ _ h1,?_,h3,fun j hj Yz=>(h4 j hj Yz).mono (zdB YA) (fun _ h=>h) zc3 hρ⟩;have:=Yb b c h1;simpa[wb9,wca this]using h2
 .simp only[St.withH,upd]at hb
  split at hb
  .cases hb
  .rename_i hne;simp[ext,hne,h.dom b hb]
 .simp only[ext]at h1 h2
  split at h1<;>split at h2
  .subst b;subst b';rfl
  .cases h1;have:=Yb _ _ h2;omega
  .cases h2;have:=Yb _ _ h1;omega
  .exact h.inj b b' c h1 h2
 .have:=YA n hn;simp;omega
 .simp only[ext]at hb
  split at hb
  .cases hb;have:=YA _ hn;omega
  .exact(h.okR n hn).2 b hb
 .simp
 .intro n hn _;simp[wb9,wca hn]
 .intro b n hb
  simp only[ext]at hb;split at hb
  .cases hb;exact .inr (Qd _)
  .exact .inl ⟨b,hb⟩
theorem SR.pushOk{ρ:Nat->Option Nat}{ok:Nat->Prop}{σ:St}{a:Act}{w:World}(h:SR ρ ok σ a w)(o:Obj) :
  SR ρ (fun n=>ok n\/n=w.heap.size) σ a { w with heap:=w.heap.push o } /\
  Goes ρ ok w ρ (fun n=>ok n\/n=w.heap.size) { w with heap:=w.heap.push o }:=by
 have YA:∀ n,ok n->n<w.heap.size:=fun n hn=>(h.okR n hn).1
 have Yb:∀ b c,ρ b=some c->c<w.heap.size:=fun b c hb=>by
  cases hH:σ.H b with
  |none=>rw[h.dom b hH]at hb;cases hb
  |some cs =>
   obtain⟨c',arr',el',h1,h2,_⟩:=h.heap b cs hH;rw[hb]at h1;cases h1
   rcases was c w.heap.size with h3|h3
   .exact h3
   .simp[wcr h3]at h2
 refine⟨⟨⟨fun b cs' hb=>?_,h.dom,h.inj,fun n hn=>⟨?_,fun b hb=>?_⟩⟩,h.size,fun t=>h.lift (zdB YA) (fun _ h=>.inl h) zc3 (fun _ _ h=>h) t,h.defers,h.small⟩,⟨?_,?_,zc3,fun b n hb=>.inl ⟨b,hb⟩,fun _ h=>.inl h,fun n hn=>?_,fun _ _=>.inl rfl,⟨rfl,rfl⟩⟩⟩
 .obtain⟨c,arr',el',h1,h2,h3,h4⟩:=h.heap b cs' hb
  refine⟨c,arr',el',h1,?_,h3,fun j hj Yz=>(h4 j hj Yz).mono (zdB YA) (fun _ h=>.inl h) zc3 (fun _ _ h=>h)⟩;have:=Yb b c h1;simpa[wb9,wca this]using h2
 .rcases hn with hn|rfl
  .have:=YA n hn;simp;omega
  .simp
 .rcases hn with hn|rfl
  .exact(h.okR n hn).2 b hb
  .have:=Yb b _ hb;omega
 .simp
 .intro n hn _;simp[wb9,wca hn]
 .rcases hn with hn|rfl
  .exact .inl hn
  .exact .inr (.inr (Qd _))
section
variable {P:Program}
theorem zh8{c off:Nat}{el:TypeId}:∀ (vs:List Value) (i:Nat) (w:World) (arr:Array Value),w.heap[c]? = some (.cells arr el (0,0))->(∀ v∈vs,zcB v=true)->off+i+vs.length<=arr.size ->
  ∃ w' arr',(storeCells ⟨c,off,none⟩ vs i).run P w = .ok () w'/\w'.heap.size=w.heap.size/\(∀ n,n≠c->w'.heap[n]? = w.heap[n]?)/\w'.heap[c]? = some (.cells arr' el (0,0))/\arr'.size=arr.size /\
   (∀ j,arr'[j]? = if off+i<=j/\j<off+i+vs.length then vs[j-(off+i)]? else arr[j]?)/\(w'.os=w.os/\w'.output=w.output):=by
 intro vs
 induction vs with
 |nil =>
  intro i w arr h _ _;refine⟨w,arr,rfl,rfl,fun _ _=>rfl,h,rfl,fun j=>?_,⟨rfl,rfl⟩⟩;rw[Qb (by simp)]
 |cons v rest ih =>
  intro i w arr h h1 h2;simp only[Qe]at h2;have KT:w.cell? ⟨c,off+i,none⟩=some arr[off+i]:=by simp[World.cell?,h]
  have VE:w.frozen? ⟨c,off+i,none⟩=false:=by simp[World.frozen?,h]
  have YN:(store ⟨c,off+i,none⟩ v).run P w = .ok () (w.setCell ⟨c,off+i,none⟩ v):=by
   have hv:=h1 v (by simp);unfold store;cases v<;>first|(simp[zcB]at hv;done)|(simp only[Sem.run,KT,VE];simp)
  have V3:(w.setCell ⟨c,off+i,none⟩ v).heap[c]? = some (.cells (arr.setIfInBounds (off+i) v) el (0,0)):=by
   simp[World.setCell,wdr,h]
  obtain⟨w',arr',r1,r2,r3,r4,r5,r6,r7⟩:=ih (i+1) (w.setCell ⟨c,off+i,none⟩ v) _ V3 (fun x hx=>h1 x (by simp[hx])) (by simp;omega);refine⟨w',arr',?_,?_,fun n hn=>?_,r4,by simpa using r5,fun j=>?_,r7⟩
  .unfold storeCells
   rw[Sem.run_bind,zcG,YN];exact r1
  .rw[r2];simp[World.setCell]
  .rw[r3 n hn];simp[World.setCell,wdr,Ne.symm hn]
  .rw[r6 j]
   simp only[Qe];by_cases hj:j=off+i
   .subst hj
    rw[Qb (by omega),Qc (by omega)];rw[wep (by omega)];simp
   .by_cases X1:off+(i+1)<=j/\j<off+(i+1)+rest.length
    .rw[Qc X1,Qc (by omega)]
     rw[show j-(off+i)=(j-(off+(i+1)))+1 by omega];simp
    .rw[Qb X1,Qb (by omega)]
     rw[wd8 (by omega)]
end
theorem zdw{base cs:List C}{off:Nat}(h:off+cs.length<=base.length):(Yh base off cs).length=base.length:=by
 simp[Yh];omega
theorem znC{base cs:List C}{off:Nat}(h:off+cs.length<=base.length)(j:Nat) :
  (Yh base off cs)[j]? = if off<=j/\j<off+cs.length then cs[j-off]? else base[j]?:=by
 unfold Yh;by_cases h1:j<off
 .rw[Qb (by omega)]
  rw[waM,wec (by simp;omega)];simp[h1]
 .by_cases h2:j<off+cs.length
  .rw[Qc (by omega)]
   rw[waM,wed (by simp;omega),wec (by simp;omega)];congr 1;simp;omega
  .rw[Qb (by omega)]
   rw[wed (by simp;omega)];simp only[List.getElem?_drop,Qj,wat];congr 1;omega
theorem SR.store{P:Program}{ρ:Nat->Option Nat}{ok:Nat->Prop}{σ:St}{a:Act}{w:World}(h:SR ρ ok σ a w){b off c:Nat}{cs ns:List C}(hb:σ.H b=some cs)(hρb:ρ b=some c){vs:List Value}
  (Y0:ns.length=vs.length) (Xw:off+ns.length<=cs.length) (Wa:∀ j (hj:j<ns.length) (Yz:j<vs.length),RC w ok ρ ns[j] vs[j]) :
  ∃ w',(storeCells ⟨c,off,none⟩ vs 0).run P w = .ok () w'/\SR ρ ok (σ.withH (upd σ.H b (some (Yh cs off ns)))) a w'/\Goes ρ ok w ρ ok w':=by
 obtain⟨c',arr,el,h1,h2,h3,h4⟩:=h.heap b cs hb;rw[hρb]at h1;cases h1
 have YR:∀ v∈vs,zcB v=true:=fun v hv=>by
  obtain⟨j,hj,rfl⟩:=waK.1 hv;exact(Wa j (by omega) hj).oneCell
 obtain⟨w',arr',r1,r2,r3,r4,r5,r6,r7⟩:=zh8 (P:=P) (c:=c) (off:=off) vs 0 w arr h2 YR (by omega);have hk:zai ok w w':=fun n hn=>r3 n (fun e=>(h.okR n hn).2 b (e▸hρb))
 have hs:∀ n el k,w.shape? n=some (el,k)->w'.shape? n=some (el,k):=fun n el' k Vc=>by
  by_cases hn:n=c
  .subst hn;simp[World.shape?,h2]at Vc;simp[World.shape?,r4,r5,Vc]
  .simpa[World.shape?,r3 n hn]using Vc
 refine⟨w',r1,⟨⟨fun b' cs' hb'=>?_,fun b' hb'=>?_,h.inj,fun n hn=>⟨by rw[r2];exact(h.okR n hn).1,(h.okR n hn).2⟩⟩,h.size,fun t=>h.lift hk (fun _ h=>h) hs (fun _ _ h=>h) t,h.defers,h.small⟩,⟨by omega,fun n hn hb'=>r3 n (fun e=>hb' b (e▸hρb)),hs,fun b' n hb'=>.inl ⟨b',hb'⟩,fun _ h=>h,fun _ h=>.inl h,fun _ _=>.inl rfl,r7⟩⟩
 .simp only[St.withH,upd]at hb'
  split at hb'
  .subst b';cases hb'
   refine⟨c,arr',el,hρb,r4,by rw[zdw Xw,r5];exact h3,fun j hj Yz=>?_⟩;rw[zdw Xw]at hj;have e1:=znC Xw j;have e2:=r6 j;simp only[wap]at e2;by_cases hr:off<=j/\j<off+ns.length
   .rw[Qc hr,waa (by rw[zdw Xw];exact hj),waa (by omega)]at e1
    rw[Qc (by omega),waW Yz,waa (by omega)]at e2;have e1':=wa0 e1;have e2':=wa0 e2;rw[e1',e2'];exact(Wa _ (by omega) (by omega)).mono hk (fun _ h=>h) hs (fun _ _ h=>h)
   .rw[Qb hr,waa (by rw[zdw Xw];exact hj),waa hj]at e1
    rw[Qb (by omega),waW Yz,waW (by omega)]at e2;have e1':=wa0 e1;have e2':=wa0 e2;rw[e1',e2'];exact(h4 j hj (by omega)).mono hk (fun _ h=>h) hs (fun _ _ h=>h)
  .rename_i hne
   obtain⟨c',arr2,el2,g1,g2,g3,g4⟩:=h.heap b' cs' hb';have WA:c'≠c:=fun e=>hne (h.inj b' b c' g1 (e▸hρb))
   exact⟨c',arr2,el2,g1,by rw[r3 c' WA];exact g2,g3,fun j hj Yz=>(g4 j hj Yz).mono hk (fun _ h=>h) hs (fun _ _ h=>h)⟩
 .simp only[St.withH,upd]at hb'
  split at hb'
  .cases hb'
  .exact h.dom b' hb'
def ZZ(P:Program)(o:Oper)(σ:St)(x:AV)(H':QD)(ρ:Nat->Option Nat)(ok:Nat->Prop)(a:Act)(w:World):Prop :=
 ∃ nx v w' ρ' ok',(execOp a.eval o).run P w = .ok nx w'/\(nx = .value v\/(nx = .skip/\v=undef))/\RA w' ok' ρ' x v/\SR ρ' ok' (σ.withH H') a w'/\Goes ρ ok w ρ' ok' w'
theorem zbh(σ:St):σ.withH σ.H=σ:=rfl
section
variable {P:Program} {o:Oper} {σ:St} {ρ:Nat->Option Nat} {ok:Nat->Prop} {a:Act} {w:World}
theorem ZZ.value(h:SR ρ ok σ a w){x:AV}{v:Value}(hr:(execOp a.eval o).run P w = .ok (.value v) w)(hx:RA w ok ρ x v):ZZ P o σ x σ.H ρ ok a w :=
 ⟨_,v,w,ρ,ok,hr,.inl rfl,hx,h,Goes.refl _ _ _⟩
theorem RA.boolOf{x:AV}{v:Value}{b:Bool}(h:RA w ok ρ x v)(hb:x.boolOf=some b):v = .bool b:=by
 unfold AV.boolOf at hb;split at hb
 .cases hb
  cases h with|one h=>cases h with|t h=>cases h;rfl
 .cases hb
theorem RA.intOf{x:AV}{v:Value}{k:IntKind}{n:Int}(h:RA w ok ρ x v)(hb:x.intOf=some (k,n)):v = .int k n:=by
 unfold AV.intOf at hb;split at hb
 .cases hb
  cases h with|one h=>cases h with|t h=>cases h;rfl
 .cases hb
theorem RA.cellsOf{x:AV}{v:Value}{cs:List C}(h:RA w ok ρ x v)(hc:x.cellsOf=some cs) :
  v.cells.size=cs.length/\∀ j (hj:j<cs.length) (Yz:j<v.cells.size),RC w ok ρ cs[j] v.cells[j]:=by
 unfold AV.cellsOf at hc;split at hc
 .cases hc
  cases h with
  |one h =>
   rw[zta h.oneCell];refine⟨rfl,fun j hj Yz=>?_⟩;simp at hj;subst hj;simpa using h
 .cases hc
  cases h with
  |agg h1 h2=>exact⟨h1,h2⟩
 .cases hc
theorem Yu{s:Sem Value}{v:Value}{w':World}(h:s.run P w = .ok v w'):(do pure (Next.value (<-s)):Sem Next).run P w = .ok (.value v) w':=by
 rw[Sem.run_bind,h];rfl
theorem zzs{s:Sem Unit}{w':World}(h:s.run P w = .ok () w'):(do s;pure .skip:Sem Next).run P w = .ok .skip w':=by
 rw[Sem.run_bind,h];rfl
theorem zp4(h:SR ρ ok σ a w){x:Operand}(ho:o.op = .move x\/o.op = .assign x):ZZ P o σ (ev σ.s x) σ.H ρ ok a w:=by
 refine .value h (v:=a.eval x) ?_ (Zj h x);rcases ho with ho|ho<;>simp only[execOp,ho]<;>rfl
theorem zxm(h:SR ρ ok σ a w){c x y:Operand}(ho:o.op = .pick c x y)(hc:(ev σ.s c).boolOf.isSome=true) :
  ZZ P o σ (if(ev σ.s c).boolOf=some true then ev σ.s x else ev σ.s y) σ.H ρ ok a w:=by
 obtain⟨b,hb⟩:=wba.1 hc;have hv:=(Zj h c).boolOf hb;rw[hb];refine .value h (v:=if b then a.eval x else a.eval y) ?_ ?_
 .simp only[execOp,ho,hv];simp[asBool]
 .cases b<;>simp[Zj h]
theorem zc1{t:TypeId}{z:List C}(hz:tzero P t=some z):∃ v,(P.info? t).bind (·.zero)=some v/\zhP v.cells.toList=some z:=by
 unfold tzero at hz;cases h:(P.info? t).bind (·.zero)with
 |none=>simp[h]at hz
 |some v=>exact⟨v,rfl,by simpa[h]using hz⟩
theorem zvP(h:SR ρ ok σ a w){t:TypeId}(ho:o.op = .alloc t){d:Nat}(h1:tok P t=true)(h2:(tzero P t).isSome=true)(h3:σ.H d=none)(XD:d<PIN) :
  ZZ P o σ (.one (.ptr d 0)) (upd σ.H d (tzero P t)) ρ ok a w:=by
 obtain⟨z,hz⟩:=wba.1 h2;obtain⟨v,Vz,VD⟩:=zc1 hz;obtain⟨l1,l2⟩:=zcb (w:=w) (ok:=ok) (ρ:=ρ) VD;obtain⟨s1,s2⟩:=h.push (d:=d) XD h3 (cs:=z) (arr:=v.cells) (el:=t) (by simp at l1;omega) (fun j hj Yz=>by have:=l2 j hj (by simpa using Yz);rwa[wbO]at this);rw[hz];refine⟨_,.pointer (some ⟨w.heap.size,0,none⟩),_,_,_,?_,.inl rfl,.one (.ptr (by simp[ext])),s1,s2⟩;simp only[execOp,ho];refine Yu ?_;unfold Instr.alloc;rw[Sem.run_bind,zee h1 Vz];simp[Result.andThen,newVar,newRow,newObj,Sem.run]
theorem zyE(h:SR ρ ok σ a w){t:TypeId}{x:Operand}(ho:o.op = .box t x){d:Nat}(h2:(ev σ.s x).cellsOf.isSome=true)(h3:σ.H d=none)(XD:d<PIN) :
  ZZ P o σ (.one (.ptr d 0)) (upd σ.H d (ev σ.s x).cellsOf) ρ ok a w:=by
 obtain⟨z,hz⟩:=wba.1 h2;obtain⟨l1,l2⟩:=(Zj h x).cellsOf hz;obtain⟨s1,s2⟩:=h.push (d:=d) XD h3 (cs:=z) (arr:=(a.eval x).cells) (el:=t) (by omega) l2;rw[hz];refine⟨_,.pointer (some ⟨w.heap.size,0,none⟩),_,_,_,?_,.inl rfl,.one (.ptr (by simp[ext])),s1,s2⟩;simp only[execOp,ho];refine Yu ?_;unfold Instr.box;simp[newVar,newRow,newObj,Sem.run]
theorem zmD(h:SR ρ ok σ a w){x:AV}{v:Value}(hx:RA w ok ρ x v){cs:List C}(hc:ZJ σ.H x=some cs) :
  ∃ c off,v = .pointer (some ⟨c,off,none⟩)/\∃ u:Nat->Value,(∀ j,j<cs.length->w.cell? ⟨c,off+j,none⟩=some (u j))/\∀ j (hj:j<cs.length),RC w ok ρ cs[j] (u j):=by
 unfold ZJ at hc;split at hc
 .rename_i b off
  simp only[wbq]at hc;obtain⟨bs,hb,rfl⟩:=hc;cases hx with
  |one hx =>
   cases hx with
   |ptr hρ =>
    rename_i c;obtain⟨c',arr,el,h1,h2,h3,h4⟩:=h.heap b bs hb;rw[hρ]at h1;cases h1
    refine⟨c,off,rfl,fun j=>arr.getD (off+j) undef,fun j hj=>?_,fun j hj=>?_⟩
    .simp at hj
     have:off+j<arr.size:=by omega
     simp[World.cell?,h2,this]
    .have Yz:=hj
     simp at hj;have:off+j<arr.size:=by omega
     have hg:=h4 (off+j) (by omega) this;simpa[this]using hg
 .rename_i ts
  cases hc
  cases hx with
  |iptr g1 g2 g3 =>
   rename_i blk off u;exact⟨blk,off,rfl,u,fun j hj=>g2 j (by simpa using hj),fun j hj=>by simpa using RC.t (g3 j (by simpa using hj))⟩
 .cases hc
theorem zxn(h:SR ρ ok σ a w){t:TypeId}{x:Operand}(ho:o.op = .load t x)(h1:tok P t=true)(h2:(ZJ σ.H (ev σ.s x)).isSome=true)
  (h3:(if tagg P t then tsize P t else 1)<=((ZJ σ.H (ev σ.s x)).getD []).length) :
  ZZ P o σ (if tagg P t then .agg (((ZJ σ.H (ev σ.s x)).getD []).take (tsize P t))else .one (((ZJ σ.H (ev σ.s x)).getD []).headD default)) σ.H ρ ok a w:=by
 obtain⟨cs,YL⟩:=wba.1 h2;rw[YL]at h3 ⊢;simp only[waV]at h3 ⊢;obtain⟨c,off,hv,u,hu,hr⟩:=zmD h (Zj h x) YL;refine .value h (v:=if tagg P t then .agg ((List.range (tsize P t)).map u).toArray else u 0) ?_ ?_
 .simp only[execOp,ho]
  refine Yu ?_;unfold Instr.loadAt;rw[Sem.run_bind,hv];simp only[Instr.sureAddr,Sem.run_pure,Result.andThen];exact zmO h1 u (fun j hj=>hu j (by omega))
 .cases hg:tagg P t with
  |true =>
   simp only[hg,if_true]at h3;simp only[if_true];refine .agg (by simp;omega) fun j hj Yz=>?_
   simp at hj Yz;simpa using hr j (by omega)
  |false =>
   simp only[hg,wa4,if_false]at h3;simp only[wa4,if_false];cases cs with
   |nil=>simp at h3
   |cons c0 l=>exact .one (hr 0 (by simp))
theorem zvQ(h:SR ρ ok σ a w){t:TypeId}{x y:Operand}(ho:o.op = .store t x y)(h1:tok P t=true){b off:Nat}(hx:ev σ.s x = .one (.ptr b off)){cs ns:List C}(hb:σ.H b=some cs)
  (hy:(ev σ.s y).cellsOf=some ns) (h2:ns.length=tsize P t) (h3:off+ns.length<=cs.length) :
  ZZ P o σ undefA (upd σ.H b (some (Yh cs off ns))) ρ ok a w:=by
 have Y3:=Zj h x;rw[hx]at Y3;generalize Wm:a.eval x=vx at Y3;cases Y3 with
 |one Y3 =>
  cases Y3 with
  |ptr hρ =>
   rename_i c;obtain⟨l1,l2⟩:=(Zj h y).cellsOf hy;obtain⟨w',r1,r2,r3⟩:=h.store (P:=P) hb hρ (vs:=(a.eval y).cells.toList) (by simpa using l1.symm) h3 (fun j hj Yz=>by simpa using l2 j hj (by simpa using Yz));refine⟨_,undef,w',ρ,ok,?_,.inr ⟨rfl,rfl⟩,.tup rfl (fun j hj=>by simp at hj),r2,r3⟩;simp only[execOp,ho,Wm];refine zzs ?_;unfold Instr.storeAt;rw[Sem.run_bind];simp only[Instr.sureAddr,Sem.run_pure,Result.andThen];unfold storeVar;rw[Sem.run_bind,zaz h1];simp only[Result.andThen];rw[Qb (by rw[l1,h2];simp)];exact r1
theorem zsq(h:SR ρ ok σ a w){x:Operand}(ho:o.op = .nilCheck x)(h1:zba (ev σ.s x)=true):ZZ P o σ (ev σ.s x) σ.H ρ ok a w:=by
 have Y3:=Zj h x;refine .value h (v:=a.eval x) ?_ Y3;simp only[execOp,ho];generalize ev σ.s x=y at *
 generalize a.eval x=v at *
 unfold zba at h1;split at h1
 .cases Y3 with|one Y3=>cases Y3;rfl
 .cases Y3;rfl
 .cases h1
end
section
variable {P:Program} {w:World}
theorem zvB{α β:Type}(f:α->Sem β)(g:α->β):∀ (l:List α),(∀ x∈l,(f x).run P w = .ok (g x) w)->(l.mapM f).run P w = .ok (l.map g) w:=by
 intro l
 induction l with
 |nil=>intro _;simp[Sem.run_pure]
 |cons x l ih =>
  intro h;rw[List.mapM_cons,Sem.run_bind,h x (by simp)];simp only[Result.andThen];rw[Sem.run_bind,ih fun y hy=>h y (by simp[hy])];simp[Result.andThen]
theorem zrN{α β:Type}(f:α->Sem β)(g:α->β)(l:Array α)(h:∀ x∈l.toList,(f x).run P w = .ok (g x) w):(l.mapM f).run P w = .ok (l.map g) w:=by
 obtain⟨l⟩:=l;rw[List.mapM_toArray,Sem.run_map,zvB f g l (by simpa using h)];simp[Result.andThen]
theorem ztX(off:Nat):∀ (l:List Value) (k:Nat) (arr:Array Value),off+k+l.length<=arr.size ->
  ((l.zipIdx k).foldl (fun cs (x:Value×Nat)=>cs.setIfInBounds (off+x.2) x.1) arr).size=arr.size /\
  ∀ i,((l.zipIdx k).foldl (fun cs (x:Value×Nat)=>cs.setIfInBounds (off+x.2) x.1) arr)[i]? = if off+k<=i/\i<off+k+l.length then l[i-(off+k)]? else arr[i]?:=by
 intro l
 induction l with
 |nil=>intro k arr _;refine⟨rfl,fun i=>?_⟩;rw[Qb (by simp)];rfl
 |cons v l ih =>
  intro k arr h;simp only[Qe]at h;rw[List.zipIdx_cons,wcW];obtain⟨h1,h2⟩:=ih (k+1) (arr.setIfInBounds (off+k) v) (by simp;omega);refine⟨by rw[h1];simp,fun i=>?_⟩;rw[h2 i];simp only[Qe];by_cases hj:i=off+k
  .subst hj
   rw[Qb (by omega),Qc (by omega),wep (by omega)];simp
  .by_cases X1:off+(k+1)<=i/\i<off+(k+1)+l.length
   .rw[Qc X1,Qc (by omega),show i-(off+k)=(i-(off+(k+1)))+1 by omega]
    simp
   .rw[Qb X1,Qb (by omega),wd8 (by omega)]
theorem zvC(off:Nat)(vs arr:Array Value)(h:off+vs.size<=arr.size) :
  (vs.zipIdx.foldl (fun cs (x:Value×Nat)=>cs.setIfInBounds (off+x.2) x.1) arr).size=arr.size /\
  ∀ i,(vs.zipIdx.foldl (fun cs (x:Value×Nat)=>cs.setIfInBounds (off+x.2) x.1) arr)[i]? = if off<=i/\i<off+vs.size then vs[i-off]? else arr[i]?:=by
 have:=ztX off vs.toList 0 arr (by simpa using h);rw[<-Array.foldl_toList,Array.toList_zipIdx];simpa using this
theorem zkV{ok:Nat->Prop}{ρ:Nat->Option Nat}(place:Nat->Option (Nat×Nat)):∀ (parts:List (Nat×AV)) (pv:List (Nat×Value)) (cs cs':List C) (arr:Array Value),
  pv.length=parts.length->(∀ j (h:j<parts.length) (h':j<pv.length),parts[j].1=pv[j].1/\RA w ok ρ parts[j].2 pv[j].2) ->
  arr.size=cs.length->(∀ j (h:j<cs.length) (h':j<arr.size),RC w ok ρ cs[j] arr[j])->zaZ place cs parts=some cs' ->
  ∃ arr',Instr.fill place arr pv=some arr'/\arr'.size=cs'.length/\∀ j (h:j<cs'.length) (h':j<arr'.size),RC w ok ρ cs'[j] arr'[j]:=by
 intro parts
 induction parts with
 |nil =>
  intro pv cs cs' arr hl _ hs hr hf;cases pv with
  |nil=>simp[zaZ]at hf;subst hf;exact⟨arr,rfl,hs,hr⟩
  |cons _ _=>simp at hl
 |cons p parts ih =>
  intro pv cs cs' arr hl hp hs hr hf;cases pv with
  |nil=>simp at hl
  |cons q pv =>
   obtain⟨i,x⟩:=p;obtain⟨i',v⟩:=q;have h0:=hp 0 (by simp) (by simp);simp only[wcG]at h0;obtain⟨rfl,hx⟩:=h0;unfold zaZ at hf;split at hf
   .rename_i off size ns G8 hc
    split at hf
    .rename_i V7
     obtain⟨Ux,Kb⟩:=V7;obtain⟨l1,l2⟩:=hx.cellsOf hc;obtain⟨f1,f2⟩:=zvC off v.cells arr (by omega);have Xw:off+ns.length<=cs.length:=by omega
     have DC:=ih pv (Yh cs off ns) cs' (v.cells.zipIdx.foldl (fun cs (x:Value×Nat)=>cs.setIfInBounds (off+x.2) x.1) arr) (by simpa using hl)
      (fun j hj Yz=>by have:=hp (j+1) (by simpa using hj) (by simpa using Yz);simpa using this) (by rw[f1,zdw Xw];exact hs) (fun j hj Yz=>by
       rw[zdw Xw]at hj;have e1:=znC Xw j;have e2:=f2 j;by_cases M0:off<=j/\j<off+ns.length
       .rw[Qc M0,waa (by rw[zdw Xw];exact hj),waa (by omega)]at e1
        rw[Qc (by omega),waW Yz,waW (by omega)]at e2;rw[wa0 e1,wa0 e2];exact l2 _ (by omega) (by omega)
       .rw[Qb M0,waa (by rw[zdw Xw];exact hj),waa hj]at e1
        rw[Qb (by omega),waW Yz,waW (by omega)]at e2;rw[wa0 e1,wa0 e2];exact hr j hj (by omega)) hf
     obtain⟨arr',g1,g2⟩:=DC;refine⟨arr',?_,g2⟩;unfold Instr.fill;simp only[G8];rw[Qb (by simp;omega)];exact g1
    .cases hf
   .cases hf
end
section
variable {P:Program} {o:Oper} {σ:St} {ρ:Nat->Option Nat} {ok:Nat->Prop} {a:Act} {w:World}
theorem zkw(h:SR ρ ok σ a w)(parts:List (Nat×Operand)):∀ j (hj:j<(parts.map fun p=>(p.1,ev σ.s p.2)).length) (Yz:j<(parts.map fun p=>(p.1,a.eval p.2)).length),
  (parts.map fun p=>(p.1,ev σ.s p.2))[j].1=(parts.map fun p=>(p.1,a.eval p.2))[j].1/\RA w ok ρ (parts.map fun p=>(p.1,ev σ.s p.2))[j].2 (parts.map fun p=>(p.1,a.eval p.2))[j].2:=by
 intro j hj Yz;simp only[Qq];exact⟨by first|rfl|trivial,Zj h _⟩
theorem zvD(h:SR ρ ok σ a w){t:TypeId}{parts:Array (Nat×Operand)}(ho:o.op = .build t parts)(h1:tok P t=true)(h0:partsTok P t=true)
  (h2:(zeB P t (parts.toList.map fun p=>(p.1,ev σ.s p.2))).isSome=true) :
  ZZ P o σ (.agg ((zeB P t (parts.toList.map fun p=>(p.1,ev σ.s p.2))).getD [])) σ.H ρ ok a w:=by
 obtain⟨cs,YL⟩:=wba.1 h2;rw[YL];unfold zeB at YL;split at YL
 .rename_i z hz
  obtain⟨v,Vz,VD⟩:=zc1 hz;obtain⟨l1,l2⟩:=zcb (w:=w) (ok:=ok) (ρ:=ρ) VD;obtain⟨arr',g1,g2,g3⟩:=zkV (w:=w) (ok:=ok) (ρ:=ρ) (placesA P t) _ (parts.toList.map fun p=>(p.1,a.eval p.2)) z cs v.cells (by simp) (zkw h parts.toList) (by simp at l1;omega)
   (fun j hj Yz=>by have:=l2 j hj (by simpa using Yz);rwa[wbO]at this) YL
  refine .value h (v:=.agg arr') ?_ (.agg g2 g3);simp only[execOp,ho];refine Yu ?_;unfold Instr.build;rw[Sem.run_bind,zee h1 Vz];simp only[Result.andThen];rw[Sem.run_bind,ZE h1];simp only[Result.andThen];unfold partsTok at h0;split at h0
  .rename_i fs hd
   simp only[hd];rw[Sem.run_bind,zrN (fun f:Field=>(do pure (f.offset,<-sizeOf f.type):Sem (Nat×Nat))) (fun f=>(f.offset,tsize P f.type)) fs (fun f hf=>by
    rw[Sem.run_bind,zaz (by simpa using(wai.1 h0) f hf)];rfl)]
   simp only[Result.andThen];have e:(fun i=>(fs.map fun f=>(f.offset,tsize P f.type))[i]?)=placesA P t:=by
    funext i;simp[placesA,hd]
   simp only[e];have e2:(parts.map fun p=>(p.1,a.eval p.2)).toList=parts.toList.map fun p=>(p.1,a.eval p.2):=by simp
   rw[e2,g1];rfl
  .rename_i n e hd
   simp only[hd];rw[Sem.run_bind,zaz h0];simp only[Result.andThen];have e:(fun i=>some (i*tsize P e,tsize P e))=placesA P t:=by
    funext i;simp[placesA,hd]
   have e2:(parts.map fun p=>(p.1,a.eval p.2)).toList=parts.toList.map fun p=>(p.1,a.eval p.2):=by simp
   rw[e,e2,g1];rfl
  .cases h0
 .cases YL
end
theorem zdy{α:Type}(n:Nat)(l:List α):(Zg n l).length=n*l.length:=by
 simp[Zg]
theorem zky{α:Type}(n:Nat)(l:List α):Zg (n+1) l=l++Zg n l:=by
 simp[Zg,wbp]
theorem zkZ{α:Type}(l:List α):∀ (n i:Nat),i<n*l.length->(Zg n l)[i]? = l[i%l.length]?:=by
 intro n
 induction n with
 |zero=>intro i h;simp at h
 |succ n ih =>
  intro i h;rw[zky];by_cases hi:i<l.length
  .rw[wec hi,wbr hi]
  .rw[wed (by omega),ih (i-l.length) (by rw[waX]at h;omega)]
   rw[Nat.mod_eq_sub_mod (a:=i) (by omega)]
theorem zgP(sz:Nat):∀ (n:Nat) (l:List T),(zaG sz n l).length=n
 |0,_=>rfl
 |n+1,l=>by simp[zaG,zgP sz n]
theorem zkz(sz:Nat):∀ (n:Nat) (l:List T) (i:Nat) (h:i<(zaG sz n l).length),(zaG sz n l)[i]=(l.drop (i*sz)).take sz
 |0,_,i,h=>by simp[zaG]at h
 |n+1,l,0,_=>by simp[zaG]
 |n+1,l,i+1,h=>by
  have:=zkz sz n (l.drop sz) i (by simpa[zaG]using h);simp only[zaG,wcH,this,wcx];congr 2;rw[waX];omega
theorem znA{sz n:Nat}{l:List T}(h:l.length=n*sz):∀ x∈zaG sz n l,x.length=sz:=by
 intro x hx;obtain⟨i,hi,rfl⟩:=waK.1 hx;rw[zkz];rw[zgP]at hi;have:(i+1)*sz<=n*sz:=wak _ hi;rw[waX]at this;simp;omega
theorem zj4{place:Nat->Option (Nat×Nat)}:∀ {parts:List (Nat×AV)} {cs cs':List C},zaZ place cs parts=some cs'->cs'.length=cs.length
 |[],cs,cs',h=>by simp[zaZ]at h;subst h;rfl
 |p::parts,cs,cs',h=>by
  obtain⟨i,x⟩:=p;unfold zaZ at h;split at h
  .split at h
   .rename_i hc;have:=zj4 h;rw[this,zdw (by omega)]
   .cases h
  .cases h
theorem zt6{cs:List C}{ts:List T}(h:zeP cs=some ts):cs=ts.map .t:=by
 have hl:=zj2 h;apply wc7 (by simpa using hl.symm);intro i h1 h2;have:=zkp h i h1 (by omega);simp only[Qq];cases hc:cs[i]with
 |t x=>simp[hc]at this;rw[this]
 |ptr _ _=>simp[hc]at this
 |vec _ _ _ _=>simp[hc]at this
 |fn _ _=>simp[hc]at this
theorem zaK{P:Program}{t:TypeId}(h:isSliceD (tdesc P t)=true):tdesc P t = .slice (telem P t):=by
 cases hd:tdesc P t<;>simp[isSliceD,hd]at h
 simp[telem,hd]
section
variable {P:Program} {o:Oper} {σ:St} {ρ:Nat->Option Nat} {ok:Nat->Prop} {a:Act} {w:World}
theorem ziC{z:List C}{v:Value}(l1:z.length=v.cells.toList.length)(l2:∀ j (h:j<z.length) (h':j<v.cells.toList.length),RC w ok ρ z[j] v.cells.toList[j])(n:Nat) :
  ((Array.range (n*z.length)).map (v.cells[· % v.cells.size]!)).size=(Zg n z).length /\
  ∀ j (h:j<(Zg n z).length) (h':j<((Array.range (n*z.length)).map (v.cells[· % v.cells.size]!)).size),RC w ok ρ (Zg n z)[j] ((Array.range (n*z.length)).map (v.cells[· % v.cells.size]!))[j]:=by
 refine⟨by simp[zdy],fun j hj Yz=>?_⟩;rw[zdy]at hj;have hz:0<z.length:=by
  rcases wcb z.length with h0|h0;· rw[h0]at hj;simp at hj
  .exact h0
 have e:=zkZ z n j hj;have hm:j%z.length<z.length:=wav _ hz;rw[waa (by rw[zdy];exact hj),waa hm]at e;rw[wa0 e];have JS:v.cells.size=z.length:=by simpa using l1.symm
 have JG:j%v.cells.size<v.cells.size:=by rw[JS];exact hm
 have hg:((Array.range (n*z.length)).map (v.cells[· % v.cells.size]!))[j]=v.cells[j%v.cells.size]:=by
  simp only[wdY,Array.getElem_range];exact getElem!_pos v.cells _ JG
 rw[hg];have:=l2 (j%z.length) hm (by simpa[JS]using hm);rw[wbO]at this;simpa[JS]using this
theorem zmy(h:SR ρ ok σ a w){t:TypeId}{n:Nat}{parts:Array (Nat×Operand)}(ho:o.op = .buildSlice t n parts)(h1:tok P t=true)(h2:isSliceD (tdesc P t)=true)(h3:tok P (telem P t)=true)
  (h4:n*tsize P (telem P t)<=2^24) (h5:0<n*tsize P (telem P t)) (h6:(tzero P (telem P t)).map (·.length)=some (tsize P (telem P t)))
  (h7:(zb8 P t n (parts.toList.map fun p=>(p.1,ev σ.s p.2))).isSome=true) :
  ZZ P o σ ((zb8 P t n (parts.toList.map fun p=>(p.1,ev σ.s p.2))).getD .junk) σ.H ρ ok a w:=by
 obtain⟨x,hx⟩:=wba.1 h7;rw[hx];simp only[waV];unfold zb8 at hx
 dsimp only at hx
 split at hx
 .rename_i z hz
  rw[hz]at h6;simp only[wcD,wa1]at h6;split at hx
  .rename_i cs YL
   simp only[wbq]at hx;obtain⟨ts,Sc,rfl⟩:=hx;obtain⟨v,Vz,VD⟩:=zc1 hz;obtain⟨l1,l2⟩:=zcb (w:=w) (ok:=ok) (ρ:=ρ) VD;obtain⟨z1,z2⟩:=ziC l1 l2 n;obtain⟨arr',g1,g2,g3⟩:=zkV (w:=w) (ok:=ok) (ρ:=ρ) _ _ (parts.toList.map fun p=>(p.1,a.eval p.2)) _ cs _ (by simp) (zkw h parts.toList) z1 z2 YL;have YW:cs.length=n*tsize P (telem P t):=by rw[zj4 YL,zdy,h6]
   have VK:=zt6 Sc;have Uy:ts.length=n*tsize P (telem P t):=by rw[<-YW,VK];simp
   obtain⟨s1,s2⟩:=h.pushOk (.cells arr' (telem P t));have hk:=zdB (o:=.cells arr' (telem P t)) fun n hn=>(h.okR n hn).1
   refine⟨_,.slice (some ⟨w.heap.size,0,none⟩) n n,_,ρ,_,?_,.inl rfl,?_,s1,s2⟩
   .simp only[execOp,ho]
    refine Yu ?_;unfold Instr.buildSlice;rw[Sem.run_bind,ZE h1,zaK h2];simp only[Result.andThen];rw[Sem.run_bind,zaz h3];simp only[Result.andThen];rw[Qb (by omega),Qb (by omega),Sem.run_bind,zee h3 Vz];simp only[Result.andThen,Sem.run_bind,Sem.run_pure];have e2:(parts.map fun p=>(p.1,a.eval p.2)).toList=parts.toList.map fun p=>(p.1,a.eval p.2):=by simp
    rw[e2,<-h6];rw[<-h6]at g1;rw[g1];simp only[newRow,newObj];rfl
   .have Ge:∀ i,i<n*tsize P (telem P t)->({ w with heap:=w.heap.push (.cells arr' (telem P t)) }:World).cell? ⟨w.heap.size,0+i,none⟩=some (arr'.getD i undef):=fun i hi=>by
     have:i<arr'.size:=by omega
     simp[World.cell?,this]
    have Yw:∀ i j,i<n->j<tsize P (telem P t)->i*tsize P (telem P t)+j<n*tsize P (telem P t):=fun i j hi hj=>by
     have:(i+1)*tsize P (telem P t)<=n*tsize P (telem P t):=wak _ hi;rw[waX]at this;omega
    have VM:∀ i (hi:i<(zaG (tsize P (telem P t)) n ts).length),(zaG (tsize P (telem P t)) n ts)[i].length=tsize P (telem P t):=fun i hi=>znA Uy _ (Qh hi)
    refine .one (.t (.seq (sz:=tsize P (telem P t)) (u:=fun i j=>arr'.getD (i*tsize P (telem P t)+j) undef) (blk:=w.heap.size) (off:=0) (zgP _ _ _).symm (Qd _) (fun h=>by cases h) (fun h=>by cases h) (fun _=>by simp) (znA Uy) (fun _=>⟨rfl,.inr rfl⟩) (fun i hi j hj=>?_) (fun i hi j hj=>?_)))
    .rw[VM i hi]at hj
     rw[zgP]at hi;exact Ge _ (Yw i j hi hj)
    .have XY:=hj
     rw[VM i hi]at hj;have Y6:=hi;rw[zgP]at Y6;have Yv:=Yw i j Y6 hj;have VA:=g3 (i*tsize P (telem P t)+j) (by omega) (by omega);have e1:cs[i*tsize P (telem P t)+j]'(by omega) = .t ((zaG (tsize P (telem P t)) n ts)[i][j]):=by
      have:(zaG (tsize P (telem P t)) n ts)[i][j]=ts[i*tsize P (telem P t)+j]'(by omega):=by
       simp only[zkz];simp
      rw[this];simp only[VK];simp
     rw[e1]at VA;cases VA with
     |t WV =>
      have XE:i*tsize P (telem P t)+j<arr'.size:=by omega
      have e3:arr'.getD (i*tsize P (telem P t)+j) undef=arr'[i*tsize P (telem P t)+j]:=by simp[XE]
      rw[e3];exact WV.mono hk (fun _ h=>.inl h)
  .cases hx
 .cases hx
theorem zr6(h:SR ρ ok σ a w){t:TypeId}{l c:Operand}(ho:o.op = .makeSlice t l c){d:Nat}(h1:tok P t=true)(h2:isSliceD (tdesc P t)=true)(h3:tok P (telem P t)=true)
  (h4:(tzero P (telem P t)).isSome=true) (h5:((tzero P (telem P t)).getD []).length=tsize P (telem P t)) (h6:0<tsize P (telem P t)) (h7:σ.H d=none) {kl kc:IntKind} {n m:Int}
  (hl:(ev σ.s l).intOf=some (kl,n)) (hc:(ev σ.s c).intOf=some (kc,m)) (h8:0<=n) (h9:n<=m) (We:m<2^62) (Ht:tbytes P (telem P t)*m<=2^47) (XD:d<PIN) :
  ZZ P o σ (.one (.vec d (tsize P (telem P t)) 0 n.toNat)) (upd σ.H d (some (Zg n.toNat ((tzero P (telem P t)).getD [])))) ρ ok a w:=by
 obtain⟨z,hz⟩:=wba.1 h4;rw[hz]at h5 ⊢;simp only[waV]at h5 ⊢;obtain⟨v,Vz,VD⟩:=zc1 hz;obtain⟨l1,l2⟩:=zcb (w:=w) (ok:=ok) (ρ:=ρ) VD;obtain⟨z1,z2⟩:=ziC l1 l2 m.toNat;have E0:n.toNat<=m.toNat:=by omega
 have YK:∀ j,j<n.toNat*z.length->(Zg n.toNat z)[j]? = (Zg m.toNat z)[j]?:=fun j hj=>by
  rw[zkZ z _ j hj,zkZ z _ j (wbf hj (wak _ E0))]
 obtain⟨s1,s2⟩:=h.push (d:=d) XD h7 (cs:=Zg n.toNat z) (arr:=(Array.range (m.toNat*z.length)).map (v.cells[· % v.cells.size]!)) (el:=telem P t) (by rw[z1,zdy,zdy];exact wak _ E0) (fun j hj Yz=>by
  have X1:=hj;rw[zdy]at X1;have e:=YK j X1;have MI:j<(Zg m.toNat z).length:=by rw[<-z1];exact Yz
  rw[waa hj,waa MI]at e;rw[wa0 e];exact z2 j MI Yz)
 refine⟨_,.slice (some ⟨w.heap.size,0,none⟩) n.toNat m.toNat,_,_,ok,?_,.inl rfl,?_,s1,s2⟩
 .simp only[execOp,ho,(Zj h l).intOf hl,(Zj h c).intOf hc]
  refine Yu ?_;obtain⟨i,hi,Jw⟩:=zeg (w:=w) h3;have hb:tbytes P (telem P t)=i.bytes:=by simp[tbytes,hi]
  have XA:IntKind.i64.wrap n=n:=IntWalk.i64_in _ (by omega);have Rn:IntKind.i64.wrap m=m:=IntWalk.i64_in _ (by omega);unfold Instr.makeSlice;rw[Sem.run_bind,ZE h1,zaK h2];simp only[Result.andThen];rw[Sem.run_bind];simp only[asInt,asIntOf,Sem.run_bind,Sem.run_pure,Result.andThen,Jw,XA,Rn,<-hb];rw[Qb (by simp;omega)];have Vl:¬(m.toNat*tbytes P (telem P t)>roomBytes):=by
   unfold roomBytes;have:((m.toNat*tbytes P (telem P t):Nat):Int)<=2^47:=by
    rw[wbY,wd6 (by omega),waI];exact Ht
   omega
  rw[Sem.run_bind];simp only[askRoom,Qb Vl,Sem.run_pure,Result.andThen,Sem.run_bind,zaz h3];by_cases WR:m.toNat*tsize P (telem P t)=0
  .rw[Qc WR]
   have:m.toNat=0:=by
    rcases Nat.mul_eq_zero.1 WR with h0|h0;· exact h0
    .omega
   simp only[Sem.run_pure,Result.andThen,WR,newRow,newObj,Sem.run_bind];simp[this,Sem.run];have e:Array.range 0=#[]:=rfl;rw[e];simp
  .rw[Qb WR]
   simp only[Sem.run_bind,zee h3 Vz,Result.andThen,Sem.run_pure,newRow,newObj,h5];rfl
 .refine .one (.vec (c:=w.heap.size) (n:=m.toNat*z.length) (by simp[ext]) E0 ⟨telem P t,?_⟩ (by rw[h5];omega))
  simp[World.shape?]
end
section
variable {P:Program} {o:Oper} {σ:St} {ρ:Nat->Option Nat} {ok:Nat->Prop} {a:Act} {w:World}
theorem zuD{op:BinOp}{k:IntKind}{x y:Int}{v:Value}(h:zaQ op k x y=some v)(hd:zjh op=true->y≠0)(t:TypeId)(ox oy:Operand) :
  (do eqGuard op t ox oy (.int k x) (.int k y);binOp op t (.int k x) (.int k y):Sem Value).run P w = .ok v w:=by
 by_cases Vj:op = .shr
 .subst Vj
  simp only[zaQ]at h;split at h
  .rename_i hy
   cases h
   have hg:(eqGuard .shr t ox oy (.int k x) (.int k y)).run P w = .ok () w:=by simp[eqGuard]
   rw[Sem.run_bind,hg];show(Op.shift .shr k x k y).run P w=_;unfold Op.shift;rw[Qb (by omega)];rfl
  .cases h
 cases op<;>first|exact(Vj rfl).elim|skip
 all_goals simp only[zaQ,wa1,reduceCtorEq]at h
 all_goals subst h
 case quo=>simp[eqGuard,binOp,Op.intDiv,hd rfl]
 case rem=>simp[eqGuard,binOp,Op.intDiv,hd rfl]
 all_goals simp[eqGuard,binOp,Op.intArith,Op.intCmp]
 all_goals rfl
theorem zhd{t:TypeId}{x y:Value}{b:Bool}(hg:∀ op ox oy,(eqGuard op t ox oy x y).run P w = .ok () w)(h:(Op.equal t x y).run P w = .ok b w)
  (hb:∀ op,(op = .eql\/op = .neq)->(binOp op t x y:Sem Value)=(match op with|.eql=>(do pure (.bool (<-Op.equal t x y)))|_=>(do pure (.bool (!(<-Op.equal t x y)))))) {op:BinOp} (ho:op = .eql\/op = .neq) (ox oy:Operand) :
  (do eqGuard op t ox oy x y;binOp op t x y:Sem Value).run P w = .ok (.bool (if op = .eql then b else !b)) w:=by
 rw[Sem.run_bind,hg];simp only[Result.andThen];rw[hb op ho];rcases ho with rfl|rfl
 .simp only[];rw[Sem.run_bind,h];rfl
 .simp only[];rw[Sem.run_bind,h];rfl
theorem znk{t:TypeId}(ht:tok P t=true)(hd:zhy (tdesc P t)=true){w:World}(p:Option Addr):(Op.equal t (.pointer p) (.pointer none)).run P w = .ok p.isNone w:=by
 unfold Op.equal Op.maxDepth Op.equalIn;rw[Sem.run_bind,ZE ht];cases h:tdesc P t with
 |pointer e =>
  cases p with
  |none=>rfl
  |some a=>rfl
 |_=>rw[h]at hd;cases hd
theorem RA.ptr_inv{b off:Nat}{v:Value}(h:RA w ok ρ (.one (.ptr b off)) v):∃ c,ρ b=some c/\v = .pointer (some ⟨c,off,none⟩):=by
 cases h with|one h=>cases h with|ptr hρ=>exact⟨_,hρ,rfl⟩
theorem RA.seq_inv{nl:Option Bool}{xs:List (List T)}{v:Value}(h:RA w ok ρ (.one (.t (.seq nl xs))) v) :
  ∃ A c,v = .slice A xs.length c/\xs.length<=c/\(nl=some true->A=none)/\(nl=some false->A≠none):=by
 cases h with|one h=>cases h with|t h=>cases h with|seq g1 g2 _ g3 g4 _ _ _ _ =>
 subst g1;exact⟨_,_,rfl,g2,g3,g4⟩
theorem zuE(h:SR ρ ok σ a w){op:BinOp}{t t':TypeId}{x y:Operand}(ho:o.op = .binOp op t x y t')(h1:(zaR op (ev σ.s x) (ev σ.s y)).isSome=true)(h2:zd2 op (ev σ.s y))(h3:zcT P t (ev σ.s x)) :
  ZZ P o σ ((zaR op (ev σ.s x) (ev σ.s y)).getD .junk) σ.H ρ ok a w:=by
 obtain⟨r,hr⟩:=wba.1 h1;rw[hr];simp only[waV];have Y3:=Zj h x;have Xx:=Zj h y
 suffices hs:∃ v,(do eqGuard op t x y (a.eval x) (a.eval y);binOp op t (a.eval x) (a.eval y):Sem Value).run P w = .ok v w/\RA w ok ρ r v by
  obtain⟨v,Vz,VD⟩:=hs;refine .value h (v:=v) ?_ VD;simp only[execOp,ho];exact Yu Vz
 generalize ev σ.s x=ax at *
 generalize ev σ.s y=ay at *
 generalize a.eval x=vx at *
 generalize a.eval y=vy at *
 unfold zaR at hr;split at hr
 .rename_i k n k' n'
  split at hr
  .rename_i hk
   subst hk;simp only[wbq]at hr;obtain⟨v,hv,rfl⟩:=hr;cases Y3 with|one Y3=>cases Y3 with|t Y3=>cases Y3 with|lit _ =>
   cases Xx with|one Xx=>cases Xx with|t Xx=>cases Xx with|lit _ =>
   refine⟨v,zuD hv h2 t x y,.one (.t (.lit ?_))⟩;by_cases Vj:op = .shr
   .subst Vj
    simp only[zaQ]at hv;split at hv
    .cases hv;rfl
    .cases hv
   cases op<;>first|exact(Vj rfl).elim|skip
   all_goals simp only[zaQ,wa1,reduceCtorEq]at hv
   all_goals subst hv
   all_goals rfl
  .cases hr
 .rename_i b b'
  cases Y3 with|one Y3=>cases Y3 with|t Y3=>cases Y3 with|lit _ =>
  cases Xx with|one Xx=>cases Xx with|t Xx=>cases Xx with|lit _ =>
  obtain⟨JK,Wq⟩:=h3;have he:(Op.equal t (.bool b) (.bool b')).run P w = .ok (b==b') w:=by
   unfold Op.equal Op.maxDepth Op.equalIn;rw[Sem.run_bind,ZE JK,Wq];rfl
  have WJ:op = .eql\/op = .neq:=by cases op<;>simp at hr<;>simp
  refine⟨_,zhd (fun op ox oy=>by cases op<;>simp[eqGuard]) he (fun op ho=>by rcases ho with rfl|rfl<;>rfl) WJ x y,?_⟩;rcases WJ with rfl|rfl<;>simp only[wa1]at hr<;>subst hr<;>exact .one (.t (.lit rfl))
 .rename_i s s'
  cases Y3 with|one Y3=>cases Y3 with|t Y3=>cases Y3 with|lit _ =>
  cases Xx with|one Xx=>cases Xx with|t Xx=>cases Xx with|lit _ =>
  have hg:∀ q,(eqGuard op t x y (.string s) (.string s')).run P q = .ok () q:=fun q=>by unfold eqGuard;cases op<;>simp
  rw[Sem.run_bind,hg];simp only[Result.andThen];unfold zea at hr;cases op<;>simp only[wa1,reduceCtorEq]at hr
  case add =>
   split at hr
   .rename_i Yw
    simp only[wa1]at hr;subst hr;refine⟨.string (s++s'),?_,.one (.t (.lit rfl))⟩;show(Op.stringOp .add s s').run P w=_;unfold Op.stringOp;simp only[];rw[Qb (by have:IntKind.i64.max=9223372036854775807:=rfl;rw[this];omega)];rfl
   .cases hr
  all_goals
   subst hr;exact⟨_,rfl,.one (.t (.lit rfl))⟩
 .rename_i n xs
  obtain⟨JK,Wq⟩:=h3;obtain⟨A,c1,rfl,g2,g3,g4⟩:=Y3.seq_inv;obtain⟨A',c2,rfl,f2,f3,f4⟩:=Xx.seq_inv;obtain rfl:=f3 rfl;have WJ:op = .eql\/op = .neq:=by cases op<;>simp at hr<;>simp
  have he:(Op.equal t (.slice A xs.length c1) (.slice none ([]:List (List T)).length c2)).run P w = .ok n w:=by
   unfold Op.equal Op.maxDepth Op.equalIn;rw[Sem.run_bind,ZE JK,zaK Wq];simp only[Result.andThen];cases A with
   |none=>cases n with
    |true=>rfl
    |false=>exact Qo rfl (g4 rfl)
   |some ad=>cases n with
    |true=>simp at g3
    |false=>rfl
  refine⟨_,zhd (fun op ox oy=>by cases op<;>simp[eqGuard]) he (fun op ho=>by rcases ho with rfl|rfl<;>rfl) WJ x y,?_⟩;rcases WJ with rfl|rfl<;>simp only[wa1]at hr<;>subst hr<;>exact .one (.t (.lit rfl))
 .obtain⟨JK,Wq⟩:=h3
  cases Y3 with|one Y3=>cases Y3 with|vec g1 g2 g3 g4 =>
  obtain⟨A',c2,rfl,f2,f3,f4⟩:=Xx.seq_inv;obtain rfl:=f3 rfl;have WJ:op = .eql\/op = .neq:=by cases op<;>simp at hr<;>simp
  refine⟨_,zhd (b:=false) (fun op ox oy=>by cases op<;>simp[eqGuard]) ?_ (fun op ho=>by rcases ho with rfl|rfl<;>rfl) WJ x y,?_⟩
  .unfold Op.equal Op.maxDepth Op.equalIn
   rw[Sem.run_bind,ZE JK,zaK Wq];rfl
  .rcases WJ with rfl|rfl<;>simp only[wa1]at hr<;>subst hr<;>exact .one (.t (.lit rfl))
 .obtain⟨JK,Wq⟩:=h3
  cases Xx with|one Xx=>cases Xx with|t Xx=>cases Xx with|lit _ =>
  cases Y3 with|iptr q1 q2 q3 =>
  have WJ:op = .eql\/op = .neq:=by cases op<;>simp at hr<;>simp
  refine⟨_,zhd (b:=false) (fun op ox oy=>by cases op<;>simp[eqGuard]) (znk JK Wq _) (fun op ho=>by rcases ho with rfl|rfl<;>rfl) WJ x y,?_⟩;rcases WJ with rfl|rfl<;>simp only[wa1]at hr<;>subst hr<;>exact .one (.t (.lit rfl))
 .obtain⟨JK,Wq⟩:=h3
  cases Xx with|one Xx=>cases Xx with|t Xx=>cases Xx with|lit _ =>
  cases Y3 with|one Y3=>cases Y3 with|t Y3=>cases Y3 with|lit _ =>
  have WJ:op = .eql\/op = .neq:=by cases op<;>simp at hr<;>simp
  refine⟨_,zhd (b:=true) (fun op ox oy=>by cases op<;>simp[eqGuard]) (znk JK Wq none) (fun op ho=>by rcases ho with rfl|rfl<;>rfl) WJ x y,?_⟩;rcases WJ with rfl|rfl<;>simp only[wa1]at hr<;>subst hr<;>exact .one (.t (.lit rfl))
 .cases hr
theorem zwt(h:SR ρ ok σ a w){op:UnOp}{t:TypeId}{x:Operand}(ho:o.op = .unOp op t x)(h1:(unV op (ev σ.s x)).isSome=true) :
  ZZ P o σ ((unV op (ev σ.s x)).getD .junk) σ.H ρ ok a w:=by
 obtain⟨r,hr⟩:=wba.1 h1;rw[hr];have Y3:=Zj h x;simp only[waV]
 suffices hs:∃ v,(Op.unary op (a.eval x)).run P w = .ok v w/\RA w ok ρ r v by
  obtain⟨v,Vz,VD⟩:=hs;refine .value h (v:=v) ?_ VD;simp only[execOp,ho];exact Yu Vz
 generalize ev σ.s x=ax at *
 generalize a.eval x=vx at *
 unfold unV at hr;split at hr
 .cases Y3 with|one Y3=>cases Y3 with|t Y3=>cases Y3 with|lit _ =>
  cases op<;>simp only[wa1,reduceCtorEq]at hr
  subst hr;exact⟨_,rfl,.one (.t (.lit rfl))⟩
 .cases Y3 with|one Y3=>cases Y3 with|t Y3=>cases Y3 with|lit _ =>
  cases op<;>simp only[wa1,reduceCtorEq]at hr
  subst hr;exact⟨_,rfl,.one (.t (.lit rfl))⟩
 .cases hr
theorem RA.seq_inv2{nl:Option Bool}{xs:List (List T)}{v:Value}(h:RA w ok ρ (.one (.t (.seq nl xs))) v) :
  ∃ A c sz blk off,∃ u:Nat->Nat->Value,v = .slice A xs.length c/\xs.length<=c/\(A=none->c=0)/\(nl=some true->A=none)/\(nl=some false->A≠none)/\(∀ x∈xs,x.length=sz) /\
   (xs≠[]->A=some ⟨blk,off,none⟩/\ok blk)/\(∀ i (hi:i<xs.length) j,j<xs[i].length->w.cell? ⟨blk,off+(i*sz+j),none⟩=some (u i j)) /\
   (∀ i (hi:i<xs.length) j (hj:j<xs[i].length),RT w ok (xs[i][j]) (u i j)):=by
 cases h with|one h=>cases h with|t h=>cases h with|seq g1 g2 g0 g3 g4 g5 g6 g7 g8 =>
 subst g1;exact⟨_,_,_,_,_,_,rfl,g2,g0,g3,g4,g5,g6,g7,g8⟩
def bN(xs:List (List T))(j:Nat):Int:=match xs[j]? with|some [.lit (.int .u8 n)]=>n|_=>0
theorem zmI:∀ {xs:List (List T)} {l:List UInt8},zfo xs=some l->(l=(List.range xs.length).map fun j=>UInt8.ofNat (bN xs j).toNat)/\∀ x∈xs,x.length=1/\∃ n,x=[.lit (.int .u8 n)]
 |[],l,h=>by simp only[zfo,wa1]at h;subst h;exact⟨rfl,fun x hx=>by cases hx⟩
 |x::xs,l,h=>by
  unfold zfo at h;split at h
  .rename_i e;cases e
  .rename_i n l' e
   cases e
   simp only[wbq]at h;obtain⟨m,hm,rfl⟩:=h;obtain⟨i1,i2⟩:=zmI hm;refine⟨?_,fun y hy=>?_⟩
   .rw[Qe,List.range_succ_eq_map,waq,wac,i1]
    rfl
   .rcases wab.1 hy with rfl|hy
    .exact⟨rfl,n,rfl⟩
    .exact i2 y hy
  .cases h
theorem zsB(f:Nat->Int):∀ (l:List Nat),(do
  let mut s:=ByteArray.empty
  for c in (l.map fun j=>Value.int .u8 (f j)).toArray do
   let .int .u8 n:=c|stuck "bytesToString: byte expected"
   s:=s.push (UInt8.ofNat n.toNat)
  pure (.string s):Sem Value).run P w = .ok (.string (zml (l.map fun j=>UInt8.ofNat (f j).toNat))) w:=by
 intro l
 suffices h:∀ (l:List Nat) (s0:ByteArray),(do
   let mut s:=s0
   for c in (l.map fun j=>Value.int .u8 (f j)).toArray do
    let .int .u8 n:=c|stuck "bytesToString: byte expected"
    s:=s.push (UInt8.ofNat n.toNat)
   pure (.string s):Sem Value).run P w = .ok (.string ((l.map fun j=>UInt8.ofNat (f j).toNat).foldl ByteArray.push s0)) w from h l _
 intro l
 induction l with
 |nil=>intro s0;simp
 |cons j l ih =>
  intro s0;have:=ih (s0.push (UInt8.ofNat (f j).toNat));simpa using this
theorem zsC(h:SR ρ ok σ a w){s t:TypeId}{x:Operand}(ho:o.op = .convert s t x)(h0:tok P s=true)(h1:tok P t=true)(h2:(zeJ P s t (ev σ.s x)).isSome=true) :
  ZZ P o σ ((zeJ P s t (ev σ.s x)).getD .junk) σ.H ρ ok a w:=by
 obtain⟨r,hr⟩:=wba.1 h2;rw[hr];have Y3:=Zj h x;simp only[waV]
 suffices hs:∃ v,(convert s t (a.eval x)).run P w = .ok v w/\RA w ok ρ r v by
  obtain⟨v,Vz,VD⟩:=hs;refine .value h (v:=v) ?_ VD;simp only[execOp,ho];exact Yu Vz
 generalize ev σ.s x=ax at *
 generalize a.eval x=vx at *
 unfold zeJ at hr;split at hr
 .cases Y3 with|one Y3=>cases Y3 with|t Y3=>cases Y3 with|lit _ =>
  simp only[wbq]at hr;obtain⟨k,hk,rfl⟩:=hr;have hd:tdesc P t = .int k:=by
   unfold intD at hk;split at hk
   .rename_i hd;cases hk;exact hd
   .cases hk
  refine⟨_,?_,.one (.t (.lit rfl))⟩;unfold convert;rw[Sem.run_bind,ZE h0];simp only[Result.andThen];rw[Sem.run_bind,ZE h1,hd];simp only[Result.andThen];rfl
 .rename_i nl xs
  split at hr
  .rename_i hc
   simp only[wag]at hc;obtain⟨⟨⟨c1,c2⟩,c3⟩,c4⟩:=hc;have d1:tdesc P s = .slice (telem P s):=zaK c1;have d3:tdesc P (telem P s) = .int .u8:=by
    unfold zrw at c3;split at c3
    .assumption
    .cases c3
   have d4:tdesc P t = .string:=by
    unfold zqX at c4;split at c4
    .assumption
    .cases c4
   simp only[wbq]at hr;obtain⟨l,hl,rfl⟩:=hr;obtain⟨A,c,sz,blk,off,u,rfl,g2,g0,g3,g4,g5,g6,g7,g8⟩:=Y3.seq_inv2;refine⟨.string (zml l),?_,.one (.t (.lit rfl))⟩;unfold convert;rw[Sem.run_bind,ZE h0];simp only[Result.andThen];rw[Sem.run_bind,ZE h1,d1,d4];simp only[Result.andThen];rw[Sem.run_bind,ZE c2,d3];simp only[Result.andThen];obtain⟨b1,b2⟩:=zmI hl;unfold Conv.bytesToString;cases A with
   |none =>
    have hx:xs=[]:=by
     by_cases e:xs=[]
     .exact e
     .have:=(g6 e).1;cases this
    subst hx;simp only[zfo,wa1]at hl;subst hl;rfl
   |some ad =>
    by_cases hx:xs=[]
    .subst hx
     simp only[zfo,wa1]at hl;subst hl;rfl
    .obtain⟨e1,_⟩:=g6 hx
     cases e1
     have XE:sz=1:=by
      cases xs with
      |nil=>exact Qo rfl hx
      |cons y ys=>rw[<-g5 y (by simp),(b2 y (by simp)).1]
     subst XE;have KT:∀ j,j<xs.length->w.cell? ⟨blk,off+j,none⟩=some (.int .u8 (bN xs j)):=fun j hj=>by
      obtain⟨q1,n,q2⟩:=b2 _ (Qh hj);have h7:=g7 j hj 0 (by omega);have h8:=g8 j hj 0 (by omega);have e2:xs[j][0]'(by omega) = .lit (.int .u8 n):=by simp[q2]
      rw[e2]at h8;have e3:u j 0 = .int .u8 n:=by generalize u j 0=q at h8;cases h8;rfl
      have e4:bN xs j=n:=by unfold bN;simp[hj,q2]
      rw[e4,<-e3,<-h7];simp
     simp only[];rw[Sem.run_bind,zeQ (fun j=>.int .u8 (bN xs j)) KT];simp only[Result.andThen];rw[show l=(List.range xs.length).map fun j=>UInt8.ofNat (bN xs j).toNat from b1];exact zsB (P:=P) (w:=w) (fun j=>bN xs j) (List.range xs.length)
  .cases hr
 .cases hr
theorem zsD(h:SR ρ ok σ a w){x:Operand}{i:Nat}(ho:o.op = .extract x i){vs:List AV}(hx:ev σ.s x = .tup vs)(hi:i<vs.length) :
  ZZ P o σ (vs.getD i .junk) σ.H ρ ok a w:=by
 have Y3:=Zj h x;rw[hx]at Y3;generalize Wm:a.eval x=vx at Y3;cases Y3 with
 |tup g1 g2 =>
  rename_i us;have Y6:i<us.size:=by omega
  refine .value h (v:=us[i]) ?_ (by simpa[hi]using g2 i hi Y6);simp only[execOp,ho,Wm];refine Yu ?_;simp[Instr.extract,Y6]
theorem zmJ:∀ {xs:List AV} {caps:List (Nat×Nat)},zcO xs=some caps->caps.length=xs.length/\∀ i (h:i<caps.length) (h':i<xs.length),xs[i] = .one (.ptr caps[i].1 caps[i].2)
 |[],caps,h=>by simp[zcO]at h;subst h;exact⟨rfl,fun i h=>by simp at h⟩
 |x::xs,caps,h=>by
  unfold zcO at h;split at h
  .rename_i Jp;cases Jp
  .rename_i b off l Jp
   cases Jp
   simp only[wbq]at h;obtain⟨c2,h2,rfl⟩:=h;obtain⟨l1,l2⟩:=zmJ h2;refine⟨by simp[l1],fun i hi Y6=>?_⟩;cases i with
   |zero=>rfl
   |succ i=>simpa using l2 i (by simpa using hi) (by simpa using Y6)
  .cases h
theorem zsg(h:SR ρ ok σ a w){f:FuncId}{first caps:Array Operand}(ho:o.op = .makeFunc (.func f) first caps)(h1:first.size=0)(h2:(zcO (caps.toList.map (ev σ.s))).isSome=true) :
  ZZ P o σ (.one (.fn f ((zcO (caps.toList.map (ev σ.s))).getD []))) σ.H ρ ok a w:=by
 obtain⟨cs,YL⟩:=wba.1 h2;rw[YL];obtain⟨l1,l2⟩:=zmJ YL;obtain rfl:first=#[]:=wdq h1;refine .value h (v:=.func (.func f) #[] (caps.map a.eval)) ?_ (.one (.fn (by simpa using l1.symm) fun i hi Y6=>?_))
 .simp only[execOp,ho]
  refine Yu ?_;simp[Instr.makeFunc]
 .have GI:i<caps.toList.length:=by simp at l1;simp at hi;simp;omega
  have hx:=l2 i hi (by simpa using GI);have hr:=Zj h caps.toList[i];simp only[Qq]at hx;rw[hx]at hr;simp only[waV];rw[wdY];rw[wbO]at hr;exact hr.ptr_inv
end
end Go.Abs
