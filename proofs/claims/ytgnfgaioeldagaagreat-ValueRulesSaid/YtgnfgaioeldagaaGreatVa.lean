/- At every input the call answers true and leaves its arguments as they were; no conditions. -/
import Derived.Test.YtgnfgaioeldagaaGreatKa
import Derived.Test.YtgnfgaioeldagaaGreatQz
import Derived.Test.YtgnfgaioeldagaaGreatNv
import Derived.Test.YtgnfgaioeldagaaGreatMk
set_option linter.unusedSimpArgs false
set_option linter.unusedVariables false
namespace Go.Proofs.YtgnfgaioeldagaaGreat
open Go Go.Abs
set_option maxHeartbeats 4000000
/-! ### Terms, values, structures as they are handed over -/
abbrev ZI := Bool × List Nat
abbrev zv (p : ZI) : Int := iv p.1 p.2
def encZ (z : Int) : ZI := (decide (z < 0), dig z.natAbs)
theorem zv_enc (z : Int) : zv (encZ z) = z := iv_eI z
abbrev IsZ (p : ZI) : Prop := IsI p.1 p.2
instance (p : ZI) : Decidable (IsZ p) := inferInstanceAs (Decidable (IsI p.1 p.2))
theorem enc_zv {p : ZI} (h : IsZ p) : encZ (zv p) = p := by
  obtain ⟨s, a⟩ := p
  have h : IsI s a := h
  show (decide (iv s a < 0), dig (iv s a).natAbs) = (s, a)
  unfold iv
  rw [if_pos h]
  have e1 : (if s = true then -(val a : Int) else (val a : Int)).natAbs = val a := by cases s <;> simp
  have e2 : decide ((if s = true then -(val a : Int) else (val a : Int)) < 0) = s := by
    cases s
    · simp
    · have : a ≠ [] := by rcases h.2 with h | h; exact h; cases h
      have : 0 < val a := Nat.pos_of_ne_zero fun e => this ((val_eq_zero h.1).1 e)
      simp; omega
  rw [e1, e2, h.1.trimZ]
theorem IsZ_enc (z : Int) : IsZ (encZ z) := IsI_eI z
/-- A term as it is handed over. -/
inductive Tm where
  | mk (o : Int) (n : ZI) (s : ByteArray) (r : Int) (ks : List Tm)
namespace Tm
def op : Tm → Int | .mk o _ _ _ _ => o
def num : Tm → ZI | .mk _ n _ _ _ => n
def name : Tm → ByteArray | .mk _ _ s _ _ => s
def sort : Tm → Int | .mk _ _ _ r _ => r
def kids : Tm → List Tm | .mk _ _ _ _ ks => ks
end Tm
theorem Tm.ind {p : Tm → Prop} (h : ∀ t : Tm, (∀ k ∈ t.kids, p k) → p t) : ∀ t, p t := fun t =>
  Tm.rec (motive_1 := p) (motive_2 := fun ks => ∀ k ∈ ks, p k) (fun o n s r ks ih => h (.mk o n s r ks) ih) (fun k hk => by cases hk)
    (fun t l ht hl k hk => by
      rcases List.mem_cons.1 hk with rfl | hk
      · exact ht
      · exact hl k hk) t
mutual
def cT : Tm → List T
  | .mk o n s r ks => [.lit (.int .i64 o), .lit (.bool n.1), eN n.2, .lit (.string s), .lit (.int .i64 r), .seq none (cTs ks)]
def cTs : List Tm → List (List T)
  | [] => []
  | t :: l => cT t :: cTs l
end
theorem cTs_map : ∀ l : List Tm, cTs l = l.map cT
  | [] => rfl
  | t :: l => by rw [cTs, cTs_map l]; rfl
theorem cT_eq (t : Tm) : cT t = [.lit (.int .i64 t.op), .lit (.bool t.num.1), eN t.num.2, .lit (.string t.name), .lit (.int .i64 t.sort), eL cT t.kids] := by
  cases t
  rw [cT, cTs_map]; rfl
theorem cT_len (t : Tm) : (cT t).length = 6 := by rw [cT_eq]; rfl
abbrev gT (t : Tm) : TV := .agg (cT t)
abbrev tLT (l : List Tm) : TV := .one (eL cT l)
mutual
def Tm.nodes : Tm → Nat
  | .mk _ _ _ _ ks => 1 + nodesL ks
def nodesL : List Tm → Nat
  | [] => 0
  | t :: l => t.nodes + nodesL l
end
theorem nodes_eq (t : Tm) : t.nodes = 1 + nodesL t.kids := by cases t; rw [Tm.nodes]; rfl
theorem nodesL_mem {t : Tm} : ∀ {l : List Tm}, t ∈ l → t.nodes ≤ nodesL l
  | [], h => by cases h
  | x :: l, h => by
    rw [nodesL]
    rcases List.mem_cons.1 h with rfl | h
    · omega
    · have := nodesL_mem h; omega
theorem nodes_pos (t : Tm) : 1 ≤ t.nodes := by rw [nodes_eq]; omega
theorem nodes_kid {t k : Tm} (h : k ∈ t.kids) : k.nodes < t.nodes := by rw [nodes_eq t]; have := nodesL_mem h; omega
theorem nodesL_take_succ {l : List Tm} {i : Nat} (h : i < l.length) : nodesL (l.take (i + 1)) = nodesL (l.take i) + l[i].nodes := by
  induction l generalizing i with
  | nil => simp at h
  | cons x l ih =>
    cases i with
    | zero => simp [nodesL]
    | succ i =>
      have := ih (i := i) (by simpa using h)
      simp only [List.take_succ_cons, nodesL, List.getElem_cons_succ]
      rw [this]; omega
theorem nodesL_len (l : List Tm) : l.length ≤ nodesL l := by
  induction l with
  | nil => simp
  | cons x l ih => rw [nodesL, List.length_cons]; have := nodes_pos x; omega
/-- Values, signatures, rows, functions. -/
abbrev VR := Int × ZI
def cV (v : VR) : List T := [.lit (.int .i64 v.1), .lit (.bool v.2.1), eN v.2.2]
theorem cV_len (v : VR) : (cV v).length = 3 := rfl
abbrev gV (v : VR) : TV := .agg (cV v)
abbrev tLV (l : List VR) : TV := .one (eL cV l)
def cInt (n : Int) : List T := [.lit (.int .i64 n)]
theorem cInt_len (n : Int) : (cInt n).length = 1 := rfl
abbrev Sg := ByteArray × List Int × Int
def cS (s : Sg) : List T := [.lit (.string s.1), eL cInt s.2.1, .lit (.int .i64 s.2.2)]
theorem cS_len (s : Sg) : (cS s).length = 3 := rfl
abbrev gSg (s : Sg) : TV := .agg (cS s)
abbrev Rw := List VR × VR
def cRw (r : Rw) : List T := [eL cV r.1, .lit (.int .i64 r.2.1), .lit (.bool r.2.2.1), eN r.2.2.2]
theorem cRw_len (r : Rw) : (cRw r).length = 4 := rfl
abbrev gRw (r : Rw) : TV := .agg (cRw r)
abbrev Fu := Sg × List Rw × VR
def cFu (f : Fu) : List T := [.lit (.string f.1.1), eL cInt f.1.2.1, .lit (.int .i64 f.1.2.2), eL cRw f.2.1, .lit (.int .i64 f.2.2.1), .lit (.bool f.2.2.2.1), eN f.2.2.2.2]
theorem cFu_len (f : Fu) : (cFu f).length = 7 := rfl
abbrev gFu (f : Fu) : TV := .agg (cFu f)
abbrev tLF (l : List Fu) : TV := .one (eL cFu l)
abbrev tS (s : ByteArray) : TV := .one (.lit (.string s))
attribute [go_sem] cV cInt cS cRw cFu
end Go.Proofs.YtgnfgaioeldagaaGreat
namespace Go.Proofs.YtgnfgaioeldagaaGreat
open Go Go.Abs
/-! ### What a term is -/
def sortB (n : Int) : Bool := decide (n = 1) || decide (n = 2)
def sigB (s : Sg) : Bool := s.2.1.all sortB && symB s.1 && decide (s.2.1.length ≤ 3) && sortB s.2.2
def sgT (t : Tm) : Sg := (t.name, t.kids.map Tm.sort, t.sort)
def zzI : ZI := (false, [])
/-- The number of a numeral, or one's negative. -/
def numT (t : Tm) : ZI × Bool :=
  if t.op = 1 then (t.num, true)
  else if t.op = 14 then (match t.kids with | [k] => if k.op = 1 then (encZ (-(zv k.num)), true) else (zzI, false) | _ => (zzI, false))
  else (zzI, false)
def kidsB (op : Int) (n : Nat) : Bool :=
  if op = 5 ∨ op = 18 then decide (n = 1)
  else if op = 15 ∨ op = 16 ∨ op = 17 ∨ op = 19 ∨ op = 20 ∨ op = 21 ∨ op = 22 ∨ op = 9 ∨ op = 10 ∨ op = 8 then decide (n = 2)
  else if op = 12 then decide (n = 3)
  else decide (1 ≤ n)
def ofB (sort : Int) (l : List Tm) : Bool := l.all fun t => decide (t.sort = sort)
/-- The sort of kid i; 0 where there is none. -/
def srt (l : List Tm) (i : Nat) : Int := match l[i]? with | some t => t.sort | none => 0
def numK (l : List Tm) (i : Nat) : ZI × Bool := match l[i]? with | some t => numT t | none => (zzI, false)
def sortsB (op : Int) (l : List Tm) : Bool :=
  if op = 5 ∨ op = 6 ∨ op = 7 ∨ op = 8 ∨ op = 9 then ofB 1 l
  else if op = 12 then decide (srt l 0 = 1) && decide (srt l 2 = srt l 1)
  else if op = 10 ∨ op = 11 then ofB (srt l 0) l
  else ofB 2 l
def linE (op : Int) (l : List Tm) : Int :=
  if op = 15 then (if (numK l 0).2 || (numK l 1).2 then 0 else 19)
  else if op = 16 ∨ op = 17 then (if (numK l 1).2 then (if zv (numK l 1).1 = 0 then 12 else 0) else 19)
  else 0
def sortR (op : Int) (l : List Tm) : Int :=
  if op = 13 ∨ op = 14 ∨ op = 15 ∨ op = 16 ∨ op = 17 ∨ op = 18 then 2
  else if op = 12 then srt l 1
  else 1
def wrongE (op : Int) (l : List Tm) : Int := if sortsB op l then linE op l else 17
def madeB (op : Int) : Bool := decide (5 ≤ op) && decide (op ≤ 22)
def plainB (t : Tm) : Bool := decide (t.num = zzI) && decide (t.name = ByteArray.empty)
def nodeB (t : Tm) : Bool :=
  if t.op = 1 then decide (IsZ t.num) && decide (t.name = ByteArray.empty) && decide (t.sort = 2) && t.kids.isEmpty
  else if t.op = 2 ∨ t.op = 3 then plainB t && decide (t.sort = 1) && t.kids.isEmpty
  else if t.op = 4 then decide (t.num = zzI) && sigB (sgT t)
  else madeB t.op && plainB t && kidsB t.op t.kids.length && decide (wrongE t.op t.kids = 0) && decide (t.sort = sortR t.op t.kids)
mutual
def okT : Tm → Bool
  | .mk o n s r ks => okTs ks && nodeB (.mk o n s r ks)
def okTs : List Tm → Bool
  | [] => true
  | t :: l => okT t && okTs l
end
theorem okT_eq (t : Tm) : okT t = (okTs t.kids && nodeB t) := by cases t; rw [okT]; rfl
theorem okTs_all : ∀ l : List Tm, okTs l = l.all okT
  | [] => rfl
  | t :: l => by rw [okTs, okTs_all l]; rfl
/-- Is it a term? -/
def isT (t : Tm) : Bool := decide (t.nodes ≤ 400) && okT t
mutual
def limT (L : Nat) : Tm → Prop
  | .mk _ n _ _ ks => n.2.length ≤ L ∧ limTs L ks
def limTs (L : Nat) : List Tm → Prop
  | [] => True
  | t :: l => limT L t ∧ limTs L l
end
theorem limT_eq (L : Nat) (t : Tm) : limT L t ↔ t.num.2.length ≤ L ∧ ∀ k ∈ t.kids, limT L k := by
  cases t with | mk o n s r ks =>
  rw [limT]
  have : ∀ l : List Tm, limTs L l ↔ ∀ k ∈ l, limT L k := fun l => by
    induction l with
    | nil => simp [limTs]
    | cons x l ih => rw [limTs, ih, List.forall_mem_cons]
  rw [this]; rfl
/-! ### What a term is worth -/
def yesV (v : VR) : Bool := decide (zv v.2 ≠ 0)
def boolV (b : Bool) : VR := if b then (1, encZ 1) else (1, zzI)
def atV (l : List VR) (i : Nat) : VR := match l[i]? with | some v => v | none => (0, zzI)
def foldN (op : Int) (a : Int) : List VR → Int
  | [] => a
  | v :: l => foldN op (if op = 13 then a + zv v.2 else if op = 14 then a - zv v.2 else if op = 15 then a * zv v.2 else if op = 16 then a / zv v.2 else a % zv v.2) l
def numV (op : Int) (l : List VR) : ZI :=
  if op = 18 then encZ ((zv (atV l 0).2).natAbs : Int)
  else if op = 14 ∧ l.length = 1 then encZ (-(zv (atV l 0).2))
  else if l.length = 1 then (atV l 0).2
  else encZ (foldN op (zv (atV l 0).2) l.tail)
def twiceV : List VR → Bool
  | [] => false
  | v :: l => l.contains v || twiceV l
def holdsV (op : Int) (l : List VR) : Bool :=
  if op = 5 then !(yesV (atV l 0))
  else if op = 6 then l.all yesV
  else if op = 7 then l.any yesV
  else if op = 8 then yesV (atV l 0) != yesV (atV l 1)
  else if op = 9 then !(yesV (atV l 0)) || yesV (atV l 1)
  else if op = 10 then decide (atV l 0 = atV l 1)
  else if op = 11 then !(twiceV l)
  else if op = 19 then decide (zv (atV l 0).2 ≤ zv (atV l 1).2)
  else if op = 20 then decide (zv (atV l 0).2 < zv (atV l 1).2)
  else if op = 21 then decide (zv (atV l 1).2 ≤ zv (atV l 0).2)
  else decide (zv (atV l 1).2 < zv (atV l 0).2)
/-- The first row whose arguments are these. -/
def rowF (l : List VR) (e : VR) : List Rw → VR
  | [] => e
  | r :: rs => if r.1 = l then r.2 else rowF l e rs
def appF (s : Sg) (l : List VR) : List Fu → VR
  | [] => (s.2.2, zzI)
  | f :: m => if f.1 = s then rowF l f.2.2 f.2.1 else appF s l m
def evalN (m : List Fu) (t : Tm) (l : List VR) : VR :=
  if t.op = 1 then (2, t.num)
  else if t.op = 2 then boolV true
  else if t.op = 3 then boolV false
  else if t.op = 4 then appF (sgT t) l m
  else if t.op = 12 then (if yesV (atV l 0) then atV l 1 else atV l 2)
  else if t.sort = 2 then (2, numV t.op l)
  else boolV (holdsV t.op l)
mutual
def evalT (m : List Fu) : Tm → VR
  | .mk o n s r ks => evalN m (.mk o n s r ks) (evalTs m ks)
def evalTs (m : List Fu) : List Tm → List VR
  | [] => []
  | t :: l => evalT m t :: evalTs m l
end
theorem evalTs_map (m : List Fu) : ∀ l : List Tm, evalTs m l = l.map (evalT m)
  | [] => rfl
  | t :: l => by rw [evalTs, evalTs_map m l]; rfl
theorem evalT_eq (m : List Fu) (t : Tm) : evalT m t = evalN m t (t.kids.map (evalT m)) := by
  cases t; rw [evalT, evalTs_map]; rfl
/-! ### Structures -/
def ofV (v : VR) (sort : Int) : Bool := decide (v.1 = sort) && sortB sort && decide (IsZ v.2) && (decide (sort = 2) || decide (zv v.2 = 0) || decide (zv v.2 = 1))
def argsB : List VR → List Int → Bool
  | [], [] => true
  | v :: l, s :: m => ofV v s && argsB l m
  | _, _ => false
def rowB (s : Sg) (r : Rw) : Bool := argsB r.1 s.2.1 && ofV r.2 s.2.2
def funB (f : Fu) : Bool := sigB f.1 && ofV f.2.2 f.1.2.2 && f.2.1.all (rowB f.1)
def riseB : List Fu → Bool
  | [] => true
  | [_] => true
  | f :: g :: l => sLt f.1.1 g.1.1 && riseB (g :: l)
def isM (m : List Fu) : Bool := m.all funB && riseB m
def heldM (m : List Fu) : List Fu := if isM m then m else []
def evalM (t : Tm) (m : List Fu) : VR := if isT t then evalT (heldM m) t else boolV false
def trueM (l : List Tm) (m : List Fu) : Bool := l.all fun t => isT t && decide (t.sort = 1) && yesV (evalT (heldM m) t)
def putF (m : List Fu) (f : Fu) : List Fu := m.filter (fun g => sLt g.1.1 f.1.1) ++ [f] ++ m.filter (fun g => sLt f.1.1 g.1.1)
def putM (m : List Fu) (name : ByteArray) (v : VR) : List Fu := putF (heldM m) ((name, [], v.1), [], v)
end Go.Proofs.YtgnfgaioeldagaaGreat
namespace Go.Proofs.YtgnfgaioeldagaaGreat
open Go Go.Abs
set_option maxHeartbeats 8000000
/-! ### Small functions of terms -/
theorem all_take_succ {α : Type} {l : List α} {p : α → Bool} {i : Nat} (h : i < l.length) : (l.take (i + 1)).all p = ((l.take i).all p && p l[i]) := by
  rw [List.take_succ_eq_append_getElem h, List.all_append]; simp
theorem all_no {α : Type} {l : List α} {p : α → Bool} {i : Nat} (h : i < l.length) (hp : p l[i] = false) : l.all p = false := by
  cases c : l.all p with
  | false => rfl
  | true => rw [List.all_eq_true.1 c _ (List.getElem_mem h)] at hp; cases hp
theorem ops18 {op : Int} (h1 : 5 ≤ op) (h2 : op ≤ 22) : op = 5 ∨ op = 6 ∨ op = 7 ∨ op = 8 ∨ op = 9 ∨ op = 10 ∨ op = 11 ∨ op = 12 ∨ op = 13 ∨ op = 14 ∨ op = 15 ∨ op = 16 ∨ op = 17 ∨ op = 18 ∨ op = 19 ∨ op = 20 ∨ op = 21 ∨ op = 22 := by omega
set_option maxRecDepth 100000 in
theorem t_IsSort (n : Int) : PCall Tryz.prog 79 [tI .i64 n] (tB (sortB n)) := by
  refine pcall_of_wpA mixed Tryz.call79 Tryz.func79 rfl Tryz.ntmps79 Tryz.results79 (by simp) (by decide) ?_
  unfold sortB
  cases c : decide (n = 1) with
  | true => simp only [go_sem, c]
  | false => simp only [go_sem, c]
set_option maxRecDepth 100000 in
theorem t_made (n : Int) : PCall Tryz.prog 158 [tI .i64 n] (tB (madeB n)) := by
  refine pcall_of_wpA mixed Tryz.call158 Tryz.func158 rfl Tryz.ntmps158 Tryz.results158 (by simp) (by decide) ?_
  unfold madeB
  cases c : decide (5 ≤ n) with
  | true => simp only [go_sem, c]
  | false => simp only [go_sem, c]
set_option maxRecDepth 100000 in
theorem t_of (s : Int) (l : List Tm) (hl : l.length < 1000000000) : PCall Tryz.prog 174 [tI .i64 s, tLT l] (tB (ofB s l)) := by
  refine pcall_of_wpA mixed Tryz.call174 Tryz.func174 rfl Tryz.ntmps174 Tryz.results174 (by simp) (by decide) ?_
  simp only [go_sem]
  refine loop_inv (fun i : Nat => stL 18 [(0, litI .i64 s), (7, .one (.t (eL cT l))), (8, litI .i64 l.length), (9, litI .i64 i)] []) (fun i => i ≤ l.length ∧ (l.take i).all (fun t => decide (t.sort = s)) = true) (fun i => l.length - i) 0 ?_ ⟨Nat.zero_le _, by simp⟩ ?_
  · (refine gstep_list rfl ?_ ?_ ?_ ?_ <;> (try simp only [go_sem, tail_one]) <;> (try simp))
  · rintro i ⟨hi, hinv⟩
    simp only [go_sem]
    refine CondR_if (fun hlt => ?_) (fun hge => ?_)
    · have hlt' : i < l.length := by omega
      have hel : elemD cT l i = cT l[i] := elemD_lt hlt'
      have hs := all_take_succ (p := fun t => decide (t.sort = s)) hlt'
      have hno := all_no (p := fun t => decide (t.sort = s)) hlt'
      generalize l[i] = t at *
      simp only [go_sem, hel, cT_eq]
      (repeat (refine And.intro (by omega) ?_))
      refine CondR_if (fun hne => ?_) (fun he => ?_)
      · rw [show ofB s l = false from hno (decide_eq_false (by simpa using hne))]
        simp only [go_sem]
      · have he : t.sort = s := by simpa using he
        simp only [go_sem]
        refine ⟨i + 1, ⟨hlt', ?_⟩, (by show l.length - (i + 1) < l.length - i; omega), ?_⟩
        · rw [hs, hinv]; simp [he]
        · (refine gstep_list rfl ?_ ?_ ?_ ?_ <;> (try simp only [go_sem, tail_one, wrap_i64 (n := (i : Int) + 1) (by omega) (by omega)]) <;> (try simp))
    · obtain rfl : i = l.length := by omega
      rw [List.take_length] at hinv
      rw [show ofB s l = true from hinv]
      simp only [go_sem]
set_option maxRecDepth 100000 in
theorem t_kids (op : Int) (n : Nat) : PCall Tryz.prog 159 [tI .i64 op, tI .i64 n] (tB (kidsB op n)) := by
  refine pcall_of_wpA mixed Tryz.call159 Tryz.func159 rfl Tryz.ntmps159 Tryz.results159 (by simp) (by decide) ?_
  simp only [go_sem]
  repeat' (first | omega | (refine CondR_if (fun _ => ?_) (fun _ => ?_)) | simp only [go_sem])
  all_goals (unfold kidsB; repeat' split)
  all_goals first | omega | (simp; omega)
set_option maxRecDepth 100000 in
theorem t_sort (op : Int) (l : List Tm) (h1 : 5 ≤ op) (h2 : op ≤ 22) (hk : kidsB op l.length = true) : PCall Tryz.prog 161 [tI .i64 op, tLT l] (tI .i64 (sortR op l)) := by
  refine pcall_of_wpA mixed Tryz.call161 Tryz.func161 rfl Tryz.ntmps161 Tryz.results161 (by simp) (by decide) ?_
  by_cases c : op = 12
  · subst c
    have hk : l.length = 3 := by simpa [kidsB] using hk
    obtain ⟨a, b, d, rfl⟩ : ∃ a b d, l = [a, b, d] := by
      match l, hk with
      | [a, b, d], _ => exact ⟨a, b, d, rfl⟩
    have hel : elemD cT [a, b, d] 1 = cT b := rfl
    simp only [go_sem, hel, cT_eq]
    rfl
  · rcases ops18 h1 h2 with rfl | rfl | rfl | rfl | rfl | rfl | rfl | rfl | rfl | rfl | rfl | rfl | rfl | rfl | rfl | rfl | rfl | rfl <;> first | exact (c rfl).elim | (simp only [go_sem]; rfl)
theorem str0 : ByteArray.toList { data := #[] } = [] := by rw [ByteArray.toList_eq]
set_option maxRecDepth 100000 in
theorem t_plain (t : Tm) : PCall Tryz.prog 157 [gT t] (tB (plainB t)) := by
  refine pcall_of_wpA mixed Tryz.call157 Tryz.func157 rfl Tryz.ntmps157 Tryz.results157 (by simp) (by decide) ?_
  have e : plainB t = (!t.num.1 && decide ((t.num.2.length : Int) = 0) && (t.name.toList == ([] : List UInt8))) := by
    unfold plainB zzI
    have e0 : ([] : List UInt8) = ByteArray.empty.toList := by rw [ByteArray.toList_eq]; rfl
    rw [e0, bytes_eq]
    congr 1
    obtain ⟨a, b⟩ := t.num
    cases a <;> cases b <;> simp <;> omega
  rw [e]
  cases c : t.num.1 with
  | true => simp only [go_sem, c, cT_eq]
  | false =>
    cases c2 : decide ((t.num.2.length : Int) = 0) with
    | true => simp only [go_sem, c, c2, cT_eq, str0]
    | false => simp only [go_sem, c, c2, cT_eq]
end Go.Proofs.YtgnfgaioeldagaaGreat
namespace Go.Proofs.YtgnfgaioeldagaaGreat
open Go Go.Abs
set_option maxHeartbeats 8000000
theorem take_succ_eq {α : Type} {a b : List α} {i : Nat} (h : i < a.length) (h' : i < b.length) (e : a.take i = b.take i) : a.take (i + 1) = b.take (i + 1) ↔ a[i] = b[i] := by
  rw [List.take_succ_eq_append_getElem h, List.take_succ_eq_append_getElem h', e, List.append_cancel_left_eq, List.cons.injEq]
  exact ⟨fun h => h.1, fun h => ⟨h, rfl⟩⟩
set_option maxRecDepth 100000 in
theorem s_EqualInt (a b : List Int) (ha : a.length < 1000000000) (hb : b.length < 1000000000) : PCall Tryz.prog 133 [.one (eL cInt a), .one (eL cInt b)] (tB (decide (a = b))) := by
  refine pcall_of_wpA mixed Tryz.call133 Tryz.func133 rfl Tryz.ntmps133 Tryz.results133 (by simp) (by decide) ?_
  simp only [go_sem]
  refine CondR_if (fun hne => ?_) (fun he => ?_)
  · have : ¬ a = b := fun e => by subst e; exact hne rfl
    rw [decide_eq_false this]
    simp only [go_sem]
  · have hlen : a.length = b.length := by omega
    simp only [go_sem]
    refine loop_inv (fun i : Nat => stL 26 [(0, .one (.t (eL cInt a))), (1, .one (.t (eL cInt b))), (12, litI .i64 a.length), (13, litI .i64 i)] []) (fun i => i ≤ a.length ∧ a.take i = b.take i) (fun i => a.length - i) 0 ?_ ⟨Nat.zero_le _, by simp⟩ ?_
    · (refine gstep_list rfl ?_ ?_ ?_ ?_ <;> (try simp only [go_sem, tail_one]) <;> (try simp))
    · rintro i ⟨hi, hinv⟩
      simp only [go_sem]
      refine CondR_if (fun hlt => ?_) (fun hge => ?_)
      · have hlt' : i < a.length := by omega
        have hlt2 : i < b.length := by omega
        have h1 : elemD cInt a i = cInt a[i] := elemD_lt hlt'
        have h2 : elemD cInt b i = cInt b[i] := elemD_lt hlt2
        have hs := take_succ_eq hlt' hlt2 hinv
        have hno : ¬ a[i] = b[i] → ¬ a = b := fun h e => h (by subst e; rfl)
        have hl2 : ((i : Int) < (b.length : Int)) = True := eq_true (by omega)
        generalize a[i] = x at *
        generalize b[i] = y at *
        simp only [go_sem, h1, h2, hlt, hl2]
        refine regA_by 0 rfl ?_
        simp only [go_sem, h1, h2, hlt, hl2]
        (repeat (refine And.intro (by omega) ?_))
        refine CondR_if (fun hne => ?_) (fun he => ?_)
        · rw [decide_eq_false (hno (by simpa using hne))]
          simp only [go_sem]
        · have he : x = y := by simpa using he
          simp only [go_sem]
          refine ⟨i + 1, ⟨hlt', hs.2 he⟩, (by show a.length - (i + 1) < a.length - i; omega), ?_⟩
          (refine gstep_list rfl ?_ ?_ ?_ ?_ <;> (try simp only [go_sem, tail_one, wrap_i64 (n := (i : Int) + 1) (by omega) (by omega)]) <;> (try simp))
      · obtain rfl : i = a.length := by omega
        rw [List.take_length, hlen, List.take_length] at hinv
        rw [decide_eq_true hinv]
        simp only [go_sem]
set_option maxRecDepth 100000 in
theorem t_SameSig (a b : Sg) (ha : a.2.1.length < 1000000000) (hb : b.2.1.length < 1000000000) : PCall Tryz.prog 97 [gSg a, gSg b] (tB (decide (a = b))) := by
  refine pcall_of_wpA mixed Tryz.call97 Tryz.func97 rfl Tryz.ntmps97 Tryz.results97 (by simp) (by decide) ?_
  have h := s_EqualInt a.2.1 b.2.1 ha hb
  have e : decide (a = b) = (decide (a.1 = b.1) && decide (a.2.2 = b.2.2) && decide (a.2.1 = b.2.1)) := by
    obtain ⟨a1, a2, a3⟩ := a
    obtain ⟨b1, b2, b3⟩ := b
    rw [Bool.eq_iff_iff]
    simp only [decide_eq_true_eq, Bool.and_eq_true, Prod.mk.injEq]
    exact ⟨fun ⟨h1, h2, h3⟩ => ⟨⟨h1, h3⟩, h2⟩, fun ⟨⟨h1, h3⟩, h2⟩ => ⟨h1, h2, h3⟩⟩
  rw [e]
  have hs := bytes_eq a.1 b.1
  cases c1 : decide (a.1 = b.1) with
  | false => rw [c1] at hs; simp only [go_sem, hs]
  | true =>
    rw [c1] at hs
    cases c2 : decide (a.2.2 = b.2.2) with
    | false => simp only [go_sem, hs, c2]
    | true =>
      simp only [go_sem, hs, c2]
      refine call_pure h rfl ?_
      simp only [go_sem]
theorem tw_one {t : Tm} : TVWs [.one (.seq (some false) [cT t])] [tLT [t]] := .cons (.one .weak) .nil
set_option maxRecDepth 100000 in
theorem t_Numeral (t : Tm) (hl : ∀ k ∈ t.kids, k.num.2.length < 10000000000000) : PCall Tryz.prog 175 [gT t] (.tup [gI (numT t).1.1 (numT t).1.2, tB (numT t).2]) := by
  refine pcall_of_wpA mixed Tryz.call175 Tryz.func175 rfl Tryz.ntmps175 Tryz.results175 (by simp) (by decide) ?_
  by_cases c1 : t.op = 1
  · have e : numT t = (t.num, true) := if_pos c1
    rw [e]
    have c1 := decide_eq_true c1
    simp only [go_sem, cT_eq, c1]
    exact fz_tup2 (fz_agg2 .t .t) (.one .t)
  · have f1 := decide_eq_false c1
    by_cases c2 : t.op = 14
    · have f2 := decide_eq_true c2
      by_cases c3 : ∃ k, t.kids = [k]
      · obtain ⟨k, hk⟩ := c3
        have hel : elemD cT [k] 0 = cT k := rfl
        have e : numT t = if k.op = 1 then (encZ (-(zv k.num)), true) else (zzI, false) := by
          unfold numT; rw [if_neg c1, if_pos c2, hk]
        rw [e]
        by_cases c4 : k.op = 1
        · have f4 := decide_eq_true c4
          have h := w_Neg k.num.1 k.num.2 (hl k (by rw [hk]; exact List.mem_singleton.2 rfl))
          rw [if_pos c4]
          simp only [go_sem, cT_eq, f1, f2, hk, hel, f4]
          refine call_pure h rfl ?_
          simp only [go_sem]
          exact fz_tup2 (fz_agg2 .t .t) (.one .t)
        · have f4 := decide_eq_false c4
          rw [if_neg c4]
          simp only [go_sem, cT_eq, f1, f2, hk, hel, f4]
          exact fz_tup2 (fz_agg2 .t .weak) (.one .t)
      · have e : numT t = (zzI, false) := by
          unfold numT; rw [if_neg c1, if_pos c2]
          split
          · rename_i k hk; exact (c3 ⟨k, hk⟩).elim
          · rfl
        have c5 : ¬ t.kids.length = 1 := fun h => c3 (by
          match t.kids, h with
          | [k], _ => exact ⟨k, rfl⟩)
        have f5 : decide ((t.kids.length : Int) = 1) = false := decide_eq_false (by omega)
        rw [e]
        simp only [go_sem, cT_eq, f1, f2, f5]
        exact fz_tup2 (fz_agg2 .t .weak) (.one .t)
    · have f2 := decide_eq_false c2
      have e : numT t = (zzI, false) := by unfold numT; rw [if_neg c1, if_neg c2]
      rw [e]
      simp only [go_sem, cT_eq, f1, f2]
      exact fz_tup2 (fz_agg2 .t .weak) (.one .t)
end Go.Proofs.YtgnfgaioeldagaaGreat
namespace Go.Proofs.YtgnfgaioeldagaaGreat
open Go Go.Abs
set_option maxHeartbeats 8000000
theorem len1 {α : Type} {l : List α} (h : l.length = 1) : ∃ a, l = [a] := by
  match l, h with
  | [a], _ => exact ⟨a, rfl⟩
theorem len2 {α : Type} {l : List α} (h : l.length = 2) : ∃ a b, l = [a, b] := by
  match l, h with
  | [a, b], _ => exact ⟨a, b, rfl⟩
theorem len3 {α : Type} {l : List α} (h : l.length = 3) : ∃ a b c, l = [a, b, c] := by
  match l, h with
  | [a, b, c], _ => exact ⟨a, b, c, rfl⟩
theorem ofB_one (s : Int) (t : Tm) : ofB s [t] = decide (t.sort = s) := by unfold ofB; simp
set_option maxRecDepth 100000 in
theorem t_sorts (op : Int) (l : List Tm) (hl : l.length < 1000000000) (hk : kidsB op l.length = true) : PCall Tryz.prog 170 [tI .i64 op, tLT l] (tB (sortsB op l)) := by
  refine pcall_of_wpA mixed Tryz.call170 Tryz.func170 rfl Tryz.ntmps170 Tryz.results170 (by simp) (by decide) ?_
  by_cases c1 : op = 5 ∨ op = 6 ∨ op = 7 ∨ op = 8 ∨ op = 9
  · have h := t_of 1 l hl
    have e : sortsB op l = ofB 1 l := if_pos c1
    rw [e]
    simp only [go_sem]
    repeat' (first | omega | (refine CondR_if (fun _ => ?_) (fun _ => ?_)) | simp only [go_sem])
    all_goals
      refine call_pure h rfl ?_
      simp only [go_sem]
  · by_cases c2 : op = 12
    · subst c2
      obtain ⟨a, b, c, rfl⟩ := len3 (l := l) (by simpa [kidsB] using hk)
      have h1 := (t_of 1 [a] (by simp)).tw (tvs' := [tI .i64 1, .one (.seq (some false) [cT a])]) (.cons (.one .refl) tw_one)
      have h2 := (t_of b.sort [c] (by simp)).tw (tvs' := [tI .i64 b.sort, .one (.seq (some false) [cT c])]) (.cons (.one .refl) tw_one)
      have e : sortsB 12 [a, b, c] = (decide (a.sort = 1) && decide (c.sort = b.sort)) := rfl
      rw [ofB_one, cT_eq] at h1
      rw [ofB_one, cT_eq] at h2
      have g0 : elemD cT [a, b, c] 0 = cT a := rfl
      have g1 : elemD cT [a, b, c] 1 = cT b := rfl
      have g2 : elemD cT [a, b, c] 2 = cT c := rfl
      rw [e]
      simp only [go_sem, g0, g1, g2, cT_eq]
      cases c : decide (a.sort = 1) with
      | false =>
        rw [c] at h1
        refine regA_by 0 rfl ?_
        simp only [go_sem, g0, g1, g2, cT_eq]
        refine call_pure h1 rfl ?_
        simp only [go_sem]
      | true =>
        rw [c] at h1
        refine regA_by 0 rfl ?_
        simp only [go_sem, g0, g1, g2, cT_eq]
        refine call_pure h1 rfl ?_
        simp only [go_sem, g0, g1, g2, cT_eq]
        refine call_pure h2 rfl ?_
        simp only [go_sem]
    · by_cases c3 : op = 10 ∨ op = 11
      · have hn : 0 < l.length := by
          rcases c3 with rfl | rfl
          · have : l.length = 2 := by simpa [kidsB] using hk
            omega
          · have : 1 ≤ l.length := by simpa [kidsB] using hk
            omega
        obtain ⟨a, l', rfl⟩ : ∃ a l', l = a :: l' := by
          cases l with
          | nil => simp at hn
          | cons a l' => exact ⟨a, l', rfl⟩
        have h := t_of a.sort (a :: l') hl
        have e : sortsB op (a :: l') = ofB a.sort (a :: l') := by unfold sortsB; rw [if_neg c1, if_neg c2, if_pos c3]; rfl
        rw [e]
        have g0 : elemD cT (a :: l') 0 = cT a := rfl
        simp only [go_sem, g0, cT_eq]
        repeat' (first | omega | (refine CondR_if (fun _ => ?_) (fun _ => ?_)) | simp only [go_sem, g0, cT_eq])
        all_goals
          refine call_pure h rfl ?_
          simp only [go_sem]
      · have h := t_of 2 l hl
        have e : sortsB op l = ofB 2 l := by unfold sortsB; rw [if_neg c1, if_neg c2, if_neg c3]
        rw [e]
        simp only [go_sem]
        repeat' (first | omega | (refine CondR_if (fun _ => ?_) (fun _ => ?_)) | simp only [go_sem])
        refine call_pure h rfl ?_
        simp only [go_sem]
/-- Numbers of kids' kids are small. -/
def smallK (l : List Tm) : Prop := ∀ t ∈ l, t.num.2.length < 1000000000 ∧ ∀ k ∈ t.kids, k.num.2.length < 1000000000
theorem numT_len {t : Tm} (h : t.num.2.length < 1000000000 ∧ ∀ k ∈ t.kids, k.num.2.length < 1000000000) : (numT t).1.2.length < 1000000000 := by
  unfold numT
  split
  · exact h.1
  · split
    · split
      · rename_i k hk
        split
        · have := h.2 k (by rw [hk]; exact List.mem_singleton.2 rfl)
          have h2 := iv_len k.num.1 k.num.2
          show (dig (-(iv k.num.1 k.num.2)).natAbs).length < _
          rw [Int.natAbs_neg]; omega
        · simp [zzI]
      · simp [zzI]
    · simp [zzI]
set_option maxRecDepth 100000 in
theorem t_linear (op : Int) (l : List Tm) (hs : smallK l) (hk : kidsB op l.length = true) : PCall Tryz.prog 171 [tI .i64 op, tLT l] (tI .i64 (linE op l)) := by
  refine pcall_of_wpA mixed Tryz.call171 Tryz.func171 rfl Tryz.ntmps171 Tryz.results171 (by simp) (by decide) ?_
  by_cases c1 : op = 15
  · subst c1
    obtain ⟨a, b, rfl⟩ := len2 (l := l) (by simpa [kidsB] using hk)
    have h1 := t_Numeral a (fun k hk => by have := (hs a (by simp)).2 k hk; omega)
    have h2 := t_Numeral b (fun k hk => by have := (hs b (by simp)).2 k hk; omega)
    have e : linE 15 [a, b] = if (numT a).2 || (numT b).2 then 0 else 19 := rfl
    rw [e]
    have g0 : elemD cT [a, b] 0 = cT a := rfl
    have g1 : elemD cT [a, b] 1 = cT b := rfl
    generalize numT a = na at *
    generalize numT b = nb at *
    obtain ⟨⟨a1, a2⟩, a3⟩ := na
    obtain ⟨⟨b1, b2⟩, b3⟩ := nb
    rw [show gT a = TV.agg (cT a) from rfl, cT_eq] at h1
    rw [show gT b = TV.agg (cT b) from rfl, cT_eq] at h2
    simp only [go_sem, g0, g1, cT_eq]
    refine call_pure h1 rfl ?_
    simp only [go_sem, g0, g1, cT_eq]
    refine call_pure h2 rfl ?_
    cases a3 <;> cases b3 <;> simp only [go_sem]
    all_goals rfl
  · by_cases c2 : op = 16 ∨ op = 17
    · obtain ⟨a, b, rfl⟩ := len2 (l := l) (by rcases c2 with rfl | rfl <;> simpa [kidsB] using hk)
      have h1 := t_Numeral b (fun k hk => by have := (hs b (by simp)).2 k hk; omega)
      have hn := numT_len (hs b (by simp))
      have e : linE op [a, b] = if (numT b).2 then (if zv (numT b).1 = 0 then 12 else 0) else 19 := by unfold linE; rw [if_neg c1, if_pos c2]; rfl
      rw [e]
      have g1 : elemD cT [a, b] 1 = cT b := rfl
      have hsg := w_Sign (numT b).1.1 (numT b).1.2 (by omega)
      generalize numT b = nb at *
      obtain ⟨⟨b1, b2⟩, b3⟩ := nb
      rw [show gT b = TV.agg (cT b) from rfl, cT_eq] at h1
      simp only [go_sem, g1, cT_eq]
      repeat' (first | omega | (refine CondR_if (fun _ => ?_) (fun _ => ?_)) | simp only [go_sem, g1, cT_eq])
      all_goals
        refine call_pure h1 rfl ?_
        cases b3 with
        | false => simp only [go_sem]; try rfl
        | true =>
          simp only [go_sem]
          refine call_pure hsg rfl ?_
          by_cases z : iv b1 b2 = 0
          · have z' : ((iv b1 b2).sign = 0) = True := eq_true (Int.sign_eq_zero_iff_zero.2 z)
            rw [if_pos (show zv (b1, b2) = 0 from z)]
            simp only [go_sem, z']
          · have z' : ((iv b1 b2).sign = 0) = False := eq_false (fun h => z (Int.sign_eq_zero_iff_zero.1 h))
            rw [if_neg (show ¬ zv (b1, b2) = 0 from z)]
            simp only [go_sem, z']
    · have e : linE op l = 0 := by unfold linE; rw [if_neg c1, if_neg c2]
      rw [e]
      simp only [go_sem]
      repeat' (first | omega | (refine CondR_if (fun _ => ?_) (fun _ => ?_)) | simp only [go_sem])
set_option maxRecDepth 100000 in
theorem t_wrong (op : Int) (l : List Tm) (hl : l.length < 1000000000) (hs : smallK l) (hk : kidsB op l.length = true) : PCall Tryz.prog 160 [tI .i64 op, tLT l] (tI .i64 (wrongE op l)) := by
  refine pcall_of_wpA mixed Tryz.call160 Tryz.func160 rfl Tryz.ntmps160 Tryz.results160 (by simp) (by decide) ?_
  have h1 := t_sorts op l hl hk
  have h2 := t_linear op l hs hk
  have e : wrongE op l = if sortsB op l then linE op l else 17 := rfl
  rw [e]
  generalize linE op l = n at *
  cases c : sortsB op l with
  | true =>
    rw [c] at h1
    simp only [go_sem]
    refine call_pure h1 rfl ?_
    simp only [go_sem]
    refine call_pure h2 rfl ?_
    simp only [go_sem]
  | false =>
    rw [c] at h1
    simp only [go_sem]
    refine call_pure h1 rfl ?_
    simp only [go_sem]
end Go.Proofs.YtgnfgaioeldagaaGreat
namespace Go.Proofs.YtgnfgaioeldagaaGreat
open Go Go.Abs
set_option maxHeartbeats 8000000
abbrev marksS : ByteArray := { data := #[126, 33, 64, 36, 37, 94, 38, 42, 95, 45, 43, 61, 60, 62, 46, 63, 47] }
/-- What the library tells of strings (proved by the kit's walk elsewhere). -/
def IdxSpec : Prop := ∀ c : UInt8, ∃ n : Int, decide (0 ≤ n) = marksL.contains c.toNat ∧ PCall Tryz.prog 138 [tS marksS, tI .u8 (c.toNat : Int)] (tI .i64 n)
def CmpSpec : Prop := ∀ a b : ByteArray, PCall Tryz.prog 62 [tS a, tS b] (tI .i64 (sCmp a b))
set_option maxRecDepth 100000 in
theorem l_digit (c : UInt8) : PCall Tryz.prog 108 [tI .u8 (c.toNat : Int)] (tB (digitB c)) := by
  refine pcall_of_wpA mixed Tryz.call108 Tryz.func108 rfl Tryz.ntmps108 Tryz.results108 (by simp) (by decide) ?_
  have e : digitB c = (decide (48 ≤ (c.toNat : Int)) && decide ((c.toNat : Int) ≤ 57)) := by
    unfold digitB
    rw [Bool.eq_iff_iff]
    simp only [decide_eq_true_eq, Bool.and_eq_true]
    omega
  rw [e]
  generalize (c.toNat : Int) = n
  cases c : decide (48 ≤ n) with
  | true => simp only [go_sem, c]
  | false => simp only [go_sem, c]
set_option maxRecDepth 100000 in
theorem l_letter (hI : IdxSpec) (c : UInt8) : PCall Tryz.prog 110 [tI .u8 (c.toNat : Int)] (tB (signB c)) := by
  refine pcall_of_wpA mixed Tryz.call110 Tryz.func110 rfl Tryz.ntmps110 Tryz.results110 (by simp) (by decide) ?_
  obtain ⟨n, hn, hp⟩ := hI c
  have hd := l_digit c
  have e : signB c = (digitB c || (decide (97 ≤ (c.toNat : Int)) && decide ((c.toNat : Int) ≤ 122)) || (decide (65 ≤ (c.toNat : Int)) && decide ((c.toNat : Int) ≤ 90)) || decide (0 ≤ n)) := by
    unfold signB
    rw [hn]
    have e1 : decide (97 ≤ c.toNat ∧ c.toNat ≤ 122) = (decide (97 ≤ (c.toNat : Int)) && decide ((c.toNat : Int) ≤ 122)) := by
      rw [Bool.eq_iff_iff]; simp only [decide_eq_true_eq, Bool.and_eq_true]; omega
    have e2 : decide (65 ≤ c.toNat ∧ c.toNat ≤ 90) = (decide (65 ≤ (c.toNat : Int)) && decide ((c.toNat : Int) ≤ 90)) := by
      rw [Bool.eq_iff_iff]; simp only [decide_eq_true_eq, Bool.and_eq_true]; omega
    rw [e1, e2]
  rw [e]
  clear hn e
  generalize digitB c = d at *
  generalize (c.toNat : Int) = m at *
  simp only [go_sem]
  refine call_pure hd rfl ?_
  cases d with
  | true => simp only [go_sem]
  | false =>
    cases c1 : decide (97 ≤ m) with
    | true =>
      cases c2 : decide (m ≤ 122) with
      | true => simp only [go_sem, c1, c2]
      | false =>
        cases c3 : decide (65 ≤ m) with
        | true =>
          cases c4 : decide (m ≤ 90) with
          | true => simp only [go_sem, c1, c2, c3, c4]
          | false =>
            simp only [go_sem, c1, c2, c3, c4]
            refine call_pure hp rfl ?_
            simp only [go_sem]
        | false =>
          simp only [go_sem, c1, c2, c3]
          refine call_pure hp rfl ?_
          simp only [go_sem]
    | false =>
      cases c3 : decide (65 ≤ m) with
      | true =>
        cases c4 : decide (m ≤ 90) with
        | true => simp only [go_sem, c1, c3, c4]
        | false =>
          simp only [go_sem, c1, c3, c4]
          refine call_pure hp rfl ?_
          simp only [go_sem]
      | false =>
        simp only [go_sem, c1, c3]
        refine call_pure hp rfl ?_
        simp only [go_sem]
set_option maxRecDepth 100000 in
theorem l_run (hI : IdxSpec) (s : ByteArray) (hs : s.size < 9223372036854775807) (k : Nat) (hk : k ≤ s.size) (h1 : ∀ i, i < k → signB s[i]! = true) (h2 : k < s.size → signB s[k]! = false) :
    PCall Tryz.prog 109 [tS s, .one (.clo 110 [])] (tS (s.extract 0 k)) := by
  refine pcall_of_wpA mixed Tryz.call109 Tryz.func109 rfl Tryz.ntmps109 Tryz.results109 (by simp) (by decide) ?_
  simp only [go_sem]
  refine loop_inv (fun i : Nat => stL 22 [(0, .one (.t (.lit (.string s)))), (1, .one (.t (.clo 110 []))), (5, litI .i64 i)] []) (fun i => i ≤ k) (fun i => k - i) 0 ?_ (Nat.zero_le _) ?_
  · (refine gstep_list rfl ?_ ?_ ?_ ?_ <;> (try simp only [go_sem, tail_one]) <;> (try simp))
  · intro i hi
    by_cases hlt : i < s.size
    · have f1 : decide ((i : Int) < (s.size : Int)) = true := decide_eq_true (by omega)
      have hc := l_letter hI s[i]!
      have f2 : ((i : Int) < (s.size : Int)) = True := eq_true (by omega)
      have f3 : ((0 : Int) ≤ (i : Int)) = True := eq_true (by omega)
      simp only [go_sem, f1, f2, f3, strOk, strV, Int.toNat_natCast]
      (repeat (refine And.intro (by omega) ?_))
      refine call_pure hc rfl ?_
      by_cases hik : i < k
      · have c := h1 i hik
        simp only [go_sem, c]
        refine ⟨i + 1, hik, (by show k - (i + 1) < k - i; omega), ?_⟩
        (refine gstep_list rfl ?_ ?_ ?_ ?_ <;> (try simp only [go_sem, tail_one, wrap_i64 (n := (i : Int) + 1) (by omega) (by omega)]) <;> (try simp))
      · obtain rfl : i = k := by omega
        have c := h2 hlt
        simp only [go_sem, c, f3, Int.toNat_natCast]
        (repeat (refine And.intro (by omega) ?_))
        exact fz_lit rfl
    · obtain rfl : i = k := by omega
      have f1 : decide ((i : Int) < (s.size : Int)) = false := decide_eq_false (by omega)
      have f3 : ((0 : Int) ≤ (i : Int)) = True := eq_true (by omega)
      simp only [go_sem, f1, f3, Int.toNat_natCast]
      (repeat (refine And.intro (by omega) ?_))
      exact fz_lit rfl
end Go.Proofs.YtgnfgaioeldagaaGreat
