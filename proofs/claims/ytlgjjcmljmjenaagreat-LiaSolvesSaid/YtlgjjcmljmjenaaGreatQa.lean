/- At every input the call answers true and leaves its arguments as they were; no conditions. -/
import Derived.Test.YtlgjjcmljmjenaaGreatAe
import Derived.Test.YtlgjjcmljmjenaaGreatPa
import Derived.Test.YtlgjjcmljmjenaaGreatRows
import Derived.Test.YtlgjjcmljmjenaaGreatWd
set_option linter.unusedSimpArgs false
set_option linter.unusedVariables false
set_option maxRecDepth 100000
namespace Go.Proofs.YtlgjjcmljmjenaaGreat
open Go Go.Abs Go.Proofs.Tryz Go.ChangeShapes Go.WideShapes Go.ChangeAt Go.RowKit
theorem Tryz.ownK:ownKnob prog.godebug=none:=by kernel_rfl
theorem Tryz.laidOut:laidOutB prog=true:=by kernel_rfl
theorem zpO{P:Program}{t:TypeId}{ts:List T}(ht:P.underlying t=some .bool)(h:WT P t ts):∃ b,ts=[.lit (.bool b)]:=by
 cases h with
 |bool h1=>exact⟨_,rfl⟩
 |int h1 _=>rw[ht]at h1;cases h1
 |str h1 _=>rw[ht]at h1;cases h1
 |slice h1 _ _ _=>rw[ht]at h1;cases h1
 |struct h1 _ _=>rw[ht]at h1;cases h1
theorem zlQ{P:Program}{t:TypeId}{ts:List T}{k:IntKind}(ht:P.underlying t=some (.int k))(h:WT P t ts):∃ n,ts=[.lit (.int k n)]/\(Lit.int k n).wf=true:=by
 cases h with
 |bool h1=>rw[ht]at h1;cases h1
 |int h1 h2=>rw[ht]at h1;cases h1;exact⟨_,rfl,h2⟩
 |str h1 _=>rw[ht]at h1;cases h1
 |slice h1 _ _ _=>rw[ht]at h1;cases h1
 |struct h1 _ _=>rw[ht]at h1;cases h1
theorem ziU{P:Program}{t e:TypeId}{ts:List T}(ht:P.underlying t=some (.slice e))(h:WT P t ts):∃ xs:List (List T),ts=[.seq none xs]/\(∀ x∈xs,WT P e x)/\xs.length<=maxLen:=by
 cases h with
 |bool h1=>rw[ht]at h1;cases h1
 |int h1 h2=>rw[ht]at h1;cases h1
 |str h1 _=>rw[ht]at h1;cases h1
 |slice h1 h2 h3 h4=>rw[ht]at h1;cases h1;exact⟨_,rfl,h2,h4⟩
 |struct h1 _ _=>rw[ht]at h1;cases h1
theorem ztV{P:Program}{t:TypeId}{ts:List T}{fs:Array Field}(ht:P.underlying t=some (.struct fs))(h:WT P t ts):∃ tss:List (List T),ts=tss.flatten/\tss.length=fs.size/\∀ i (h:i<fs.size) (h':i<tss.length),WT P fs[i].type tss[i]:=by
 cases h with
 |bool h1=>rw[ht]at h1;cases h1
 |int h1 h2=>rw[ht]at h1;cases h1
 |str h1 _=>rw[ht]at h1;cases h1
 |slice h1 h2 h3 h4=>rw[ht]at h1;cases h1
 |struct h1 h2 h3=>rw[ht]at h1;cases h1;exact⟨_,rfl,h2,h3⟩
theorem zij{P:Program}{t:TypeId}{ts:List T}{f g:Field}(ht:P.underlying t=some (.struct #[f,g]))(h:WT P t ts):∃ a b,ts=a++b/\WT P f.type a/\WT P g.type b:=by
 obtain⟨tss,rfl,h1,h2⟩:=ztV ht h
 match tss,h1 with
 |[a,b],_=>exact⟨a,b,by simp,h2 0 (by simp) (by simp),h2 1 (by simp) (by simp)⟩
theorem zgX{α β:Type}{f:α->β}{p:α->Prop}:∀ {xs:List β},(∀ x∈xs,∃ y,x=f y/\p y)->∃ ys:List α,xs=ys.map f/\∀ y∈ys,p y
 |[],_=>⟨[],rfl,by simp⟩
 |x::xs,h=>by
  obtain⟨y,rfl,hy⟩:=h x (by simp);obtain⟨ys,e,Wl⟩:=zgX (xs:=xs) (f:=f) (p:=p) (fun x hx=>h x (waj _ hx));exact⟨y::ys,by rw[e];rfl,fun z hz=>by
   rcases wab.1 hz with rfl|hz
   .exact hy
   .exact Wl z hz⟩
theorem zyr{n:Int}(h:(Lit.int .u32 n).wf=true):∃ m:Nat,n=(m:Int)/\m<4294967296:=by
 simp[Lit.wf,IntKind.min,IntKind.max,IntKind.signed,IntKind.bits]at h;exact⟨n.toNat,by omega,by omega⟩
theorem zys{n:Int}(h:(Lit.int .i64 n).wf=true) : -9223372036854775808<=n/\n<9223372036854775808:=by
 simp[Lit.wf,IntKind.min,IntKind.max,IntKind.signed,IntKind.bits]at h;omega
theorem zru{n:Int}(h:(Lit.int .u8 n).wf=true):0<=n/\n<256:=by
 simp[Lit.wf,IntKind.min,IntKind.max,IntKind.signed,IntKind.bits]at h;omega
theorem zox{ts:List T}(h:WT prog 28 ts):∃ xs:List Nat,ts=[eN xs]/\xs.length<=maxLen:=by
 obtain⟨xs,rfl,h1,h2⟩:=ziU Tryz.underlying28 h;obtain⟨ys,rfl,_⟩:=zgX (f:=Zo) (p:=fun _=>True) (xs:=xs) fun x hx=>by
  obtain⟨n,rfl,hw⟩:=zlQ Tryz.underlying89 (h1 x hx);obtain⟨m,rfl,_⟩:=zyr hw;exact⟨m,rfl,trivial⟩
 exact⟨ys,rfl,by simpa using h2⟩
theorem zyt{ts:List T}(h:WT prog 30 ts):∃ (s:Bool) (a:List Nat),ts=[.lit (.bool s),eN a]/\a.length<=maxLen:=by
 obtain⟨x,y,rfl,h1,h2⟩:=zij Tryz.underlying30 h;obtain⟨s,rfl⟩:=zpO Tryz.underlying4 h1;obtain⟨a,rfl,ha⟩:=zox h2;exact⟨s,a,rfl,ha⟩
theorem zpP{t:TypeId}{k:IntKind}(ht:prog.underlying t=some (.int k)){tv:TV}(h:WTV prog t tv):∃ n,tv=tI k n/\(Lit.int k n).wf=true:=by
 unfold WTV at h;rw[ht]at h;obtain⟨x,rfl,h⟩:=h;obtain⟨n,hn,hw⟩:=zlQ ht h;cases hn;exact⟨n,rfl,hw⟩
theorem zvv{tv:TV}(h:WTV prog 23 tv):∃ l:List (Bool×List Nat),tv = .one (eL cI l)/\l.length<=maxLen:=by
 unfold WTV at h;rw[Tryz.underlying23]at h;obtain⟨x,rfl,h⟩:=h;obtain⟨xs,hx,h1,h2⟩:=ziU Tryz.underlying23 h;cases hx
 obtain⟨ys,rfl,_⟩:=zgX (f:=cI) (p:=fun _=>True) (xs:=xs) fun x hx=>by
  obtain⟨s,a,rfl,_⟩:=zyt (h1 x hx);exact⟨(s,a),rfl,trivial⟩
 exact⟨ys,rfl,by simpa using h2⟩
theorem zoy{P:Program}{tvs:List TV}(h:WTVs P [] tvs):tvs=[]:=by cases h;rfl
theorem zg1{P:Program}{t:TypeId}{ts:List TypeId}{tvs:List TV}(h:WTVs P (t::ts) tvs):∃ x xs,tvs=x::xs/\WTV P t x/\WTVs P ts xs:=by
 cases h with|cons h1 h2=>exact⟨_,_,rfl,h1,h2⟩
theorem zpQ{ts:List T}(h:WT prog 30 ts):∃ p:Bool×List Nat,ts=cI p/\p.2.length<=9223372036854775807:=by
 obtain⟨x,y,rfl,h1,h2⟩:=zij Tryz.underlying30 h;obtain⟨b,rfl⟩:=zpO Tryz.underlying4 h1;obtain⟨xs,rfl,hl⟩:=zox h2;exact⟨(b,xs),rfl,Qn hl (by decide)⟩
def zqO:List TypeId:=[4,28,89,30,23,2,21,48,49,5,3,77,73,34,27,32,22,127]
def zgv(t:TypeId):Bool:=zqO.contains t
theorem zoz:∀ t,zgv t=true->zei prog zgv t=true:=by
 have h:zqO.all (zei prog zgv)=true:=by kernel_rfl
 intro t ht;exact wai.1 h t (by simpa[zgv]using ht)
theorem zuP{ts:List Go.Abs.T}(h:WT prog 34 ts):∃ m:MM,ts=cM m/\(-9223372036854775808<=m.1/\m.1<9223372036854775808)/\m.2.2.length<=9223372036854775807:=by
 obtain⟨x,y,rfl,h1,h2⟩:=zij Tryz.underlying34 h;obtain⟨v,rfl,hv⟩:=zlQ Tryz.underlying3 h1;obtain⟨p,rfl,hp⟩:=zpQ h2;exact⟨(v,p.1,p.2),rfl,zys hv,hp⟩
theorem zwD{ts:List Go.Abs.T}(h:WT prog 32 ts):∃ l:LL,ts=cL l/\zfD l:=by
 obtain⟨x,y,rfl,h1,h2⟩:=zij Tryz.underlying32 h;obtain⟨xs,rfl,h3,h4⟩:=ziU Tryz.underlying27 h1;obtain⟨ys,rfl,h5⟩:=zgX (f:=cM) (p:=fun m=>(-9223372036854775808<=m.1/\m.1<9223372036854775808)/\m.2.2.length<=9223372036854775807) (xs:=xs) fun x hx=>zuP (h3 x hx)
 obtain⟨p,rfl,hp⟩:=zpQ h2;exact⟨(ys,p.1,p.2),rfl,⟨Qn (by simpa using h4) (by decide:maxLen<=9223372036854775807),fun m hm=>(h5 m hm).1⟩,fun m hm=>(h5 m hm).2,hp⟩
theorem znn{tv:TV}(h:WTV prog 22 tv):∃ xs:List LL,tv = .one (eL cL xs)/\xs.length<=maxLen/\∀ l∈xs,zfD l:=by
 unfold WTV at h;rw[Tryz.underlying22]at h;obtain⟨x,rfl,h⟩:=h;obtain⟨xs,hx,h1,h2⟩:=ziU Tryz.underlying22 h;cases hx
 obtain⟨ys,rfl,h3⟩:=zgX (f:=cL) (p:=zfD) (xs:=xs) fun x hx=>zwD (h1 x hx)
 exact⟨ys,rfl,by simpa using h2,h3⟩
end Go.Proofs.YtlgjjcmljmjenaaGreat
