/- At every input the call answers true and leaves its arguments as they were; no conditions. -/
import Derived.Test.YtjmbhknhiakkpaaPe
import Derived.Test.YtjmbhknhiakkpaaQe
set_option linter.unusedSimpArgs false
set_option linter.unusedVariables false
namespace Go.Proofs.Ytjmbhknhiakkpaa
open Go Go.Abs
set_option maxHeartbeats 8000000
/-! ### Fractions in slices -/
abbrev QQ := Bool × List Nat × List Nat
def cQ (q : QQ) : List T := [.lit (.bool q.1), eN q.2.1, eN q.2.2]
theorem cQ_len (q : QQ) : (cQ q).length = 3 := rfl
abbrev tLQ (l : List QQ) : TV := .one (eL cQ l)
abbrev aLQ (l : List QQ) : AV := .one (.t (eL cQ l))
/-- A fraction as it is kept, in a slice. -/
def cR (x : Rat) : List T := [.lit (.bool (decide (x.num < 0))), eN (dig x.num.natAbs), eN (dig x.den)]
theorem cR_len (x : Rat) : (cR x).length = 3 := rfl
abbrev tLR (l : List Rat) : TV := .one (eL cR l)
abbrev aLR (l : List Rat) : AV := .one (.t (eL cR l))
attribute [go_sem] cQ cR
def qQ (q : QQ) : Rat := qv q.1 q.2.1 q.2.2
def rawQ (x : Rat) : QQ := (decide (x.num < 0), dig x.num.natAbs, dig x.den)
theorem qQ_raw (x : Rat) : qQ (rawQ x) = x := qv_eQ x
theorem eL_raw (l : List Rat) : eL cQ (l.map rawQ) = eL cR l := by unfold eL; rw [List.map_map]; rfl
theorem cR_sd {ys : List Rat} {i : Nat} (hi : i < ys.length) {q : Rat} : (cellsL cR ys).take (i * 3) ++ C.t (.lit (.bool (decide (q.num < 0)))) :: C.t (eN (dig q.num.natAbs)) :: C.t (eN (dig q.den)) :: (cellsL cR ys).drop (i * 3 + 3) = cellsL cR (ys.set i q) := by
  have := cellsL_set (f := cR) (sz := 3) cR_len hi (y := q)
  rw [← this]; simp [setCs, cR]
theorem cR_clen {ys : List Rat} : (cellsL cR ys).length = ys.length * 3 := cellsL_length cR_len
theorem cR_at {ys : List Rat} {i : Nat} (hi : i < ys.length) : (cellsL cR ys).drop (i * 3) = (cR ys[i]).map .t ++ cellsL cR (ys.drop (i + 1)) := cellsL_at cR_len hi
/-! ### A form's value at fractions -/
def atQM : List Mn → (Nat → Rat) → Rat
  | [], _ => 0
  | m :: l, p => (m.2 : Rat) * p m.1 + atQM l p
def atQ (f : Fm) (p : Nat → Rat) : Rat := (f.2 : Rat) + atQM f.1 p
theorem atQM_snoc (l : List Mn) (m : Mn) (p : Nat → Rat) : atQM (l ++ [m]) p = atQM l p + (m.2 : Rat) * p m.1 := by
  induction l with
  | nil => show (m.2 : Rat) * p m.1 + 0 = 0 + _; grind
  | cons x l ih => show (x.2 : Rat) * p x.1 + atQM (l ++ [m]) p = (x.2 : Rat) * p x.1 + atQM l p + _; rw [ih]; grind
/-- The point that a slice of fractions tells. -/
def ptQ (x : List QQ) (v : Nat) : Rat := match x[v]? with | some q => qQ q | none => 0
theorem lQ_ptQ {x : List QQ} {K : Nat} (hK : 1 ≤ K) (h : ∀ q ∈ x, q.2.1.length ≤ K ∧ q.2.2.length ≤ K) (v : Nat) : lQ (ptQ x v) ≤ K := by
  unfold ptQ
  split
  · rename_i q hq
    have h1 := h q (List.mem_of_getElem? hq)
    have h2 := lQ_qv q.1 q.2.1 q.2.2
    unfold qQ; omega
  · have := lQ_zero; omega
theorem lQ_atQ {N L K : Nat} {f : Fm} (hL : 1 ≤ L) (h : Bd N L f) {p : Nat → Rat} (hp : ∀ v, lQ (p v) ≤ K) (i : Nat) : lQ ((f.2 : Rat) + atQM (f.1.take i) p) ≤ L + i * (L + K + 1) := by
  induction i with
  | zero =>
    rw [List.take_zero]
    show lQ ((f.2 : Rat) + 0) ≤ _
    rw [Rat.add_zero]
    have h1 := lQ_int f.2
    have h2 := h.2.2
    omega
  | succ i ih =>
    by_cases hi : i < f.1.length
    · rw [take_snoc hi, atQM_snoc, ← Rat.add_assoc]
      have h1 := lQ_add ((f.2 : Rat) + atQM (f.1.take i) p) ((f.1[i].2 : Rat) * p f.1[i].1)
      have h2 := lQ_mul (f.1[i].2 : Rat) (p f.1[i].1)
      have h3 := (h.2.1 _ (List.getElem_mem hi)).2
      have h4 := hp f.1[i].1
      have h5 := lQ_int f.1[i].2
      rw [Nat.succ_mul]
      omega
    · rw [List.take_of_length_le (by omega)] at ih ⊢
      rw [Nat.succ_mul]; omega
theorem q_Of1_e (p : Int) (ha : lN p < 1000000000000) : PCall Try.prog 76 [eI p] (eQ (p : Rat)) := by
  have := q_Of1 (decide (p < 0)) (dig p.natAbs) ha; rwa [iv_eI] at this
end Go.Proofs.Ytjmbhknhiakkpaa
namespace Go.Proofs.Ytjmbhknhiakkpaa
open Go Go.Abs
set_option maxHeartbeats 8000000
/-- A sum of fractions. -/
def sumR (l : List Rat) : Rat := l.foldl (· + ·) 0
theorem sumR_snoc (l : List Rat) (x : Rat) : sumR (l ++ [x]) = sumR l + x := by unfold sumR; rw [List.foldl_append]; rfl
theorem lQ_sumR {K : Nat} {l : List Rat} (h : ∀ x ∈ l, lQ x ≤ K) : ∀ i, lQ (sumR (l.take i)) ≤ 1 + i * (K + 1) := by
  intro i
  induction i with
  | zero => rw [List.take_zero]; have := lQ_zero; show lQ 0 ≤ _; omega
  | succ i ih =>
    by_cases hi : i < l.length
    · rw [take_snoc hi, sumR_snoc, Nat.succ_mul]
      have h1 := lQ_add (sumR (l.take i)) l[i]
      have h2 := h _ (List.getElem_mem hi)
      omega
    · rw [List.take_of_length_le (by omega)] at ih ⊢
      rw [Nat.succ_mul]; omega
/-! ### Slices of fractions that are made -/
abbrev z3 : List C := [.t (.lit (.bool false)), .t (.seq (some true) []), .t (.seq (some true) [])]
/-- What a new slice holds is told as weak cells. -/
def cW (_ : Unit) : List T := [.lit (.bool false), eN [], eN []]
/-- Cells told so far, behind them noughts of memory. -/
def cZ (q : Option Rat) : List T := match q with | some x => cR x | none => [.lit (.bool false), eN [], eN []]
theorem cZ_len (q : Option Rat) : (cZ q).length = 3 := by cases q <;> rfl
theorem cZ_some {x : Rat} : cZ (some x) = cR x := rfl
theorem weakL_z3 : ∀ n : Nat, WeakL (repl n z3) (cellsL cZ (List.replicate n none))
  | 0 => .nil
  | n + 1 => by
    have ih := weakL_z3 n
    unfold repl at ih ⊢
    rw [List.replicate_succ, List.replicate_succ, List.flatten_cons, cellsL_cons]
    exact .cons .refl (.cons .seq (.cons .seq ih))
theorem cZ_map (l : List Rat) : cellsL cZ (l.map some) = cellsL cR l := by
  unfold cellsL; rw [List.map_map]; rfl
theorem cZ_sd {ys : List (Option Rat)} {i : Nat} (hi : i < ys.length) {q : Rat} : (cellsL cZ ys).take (i * 3) ++ C.t (.lit (.bool (decide (q.num < 0)))) :: C.t (eN (dig q.num.natAbs)) :: C.t (eN (dig q.den)) :: (cellsL cZ ys).drop (i * 3 + 3) = cellsL cZ (ys.set i (some q)) := by
  have := cellsL_set (f := cZ) (sz := 3) cZ_len hi (y := some q)
  rw [← this]; simp [setCs, cZ, cR]
theorem cZ_clen {ys : List (Option Rat)} : (cellsL cZ ys).length = ys.length * 3 := cellsL_length cZ_len
theorem fill_next {l : List Rat} {n i : Nat} (hi : i < l.length) (hn : l.length ≤ n) : ((l.take i).map some ++ List.replicate (n - i) none).set i (some l[i]) = (l.take (i + 1)).map some ++ List.replicate (n - (i + 1)) none := by
  rw [List.set_append, if_neg (by simp; omega), show i - ((l.take i).map some).length = 0 by simp; omega, show n - i = (n - (i + 1)) + 1 by omega, List.replicate_succ, List.set_cons_zero, take_snoc hi, List.map_append, List.append_assoc]; rfl
end Go.Proofs.Ytjmbhknhiakkpaa
namespace Go.Proofs.Ytjmbhknhiakkpaa
open Go Go.Abs
set_option maxHeartbeats 16000000
/-! ### Sums of forms, each so often -/
def lastV (f : Fm) : Nat := match f.1.getLast? with | some m => m.1 + 1 | none => 0
def nV (ls : List Fm) : Nat := ls.foldl (fun n f => max n (lastV f)) 0
theorem nV_snoc (ls : List Fm) (f : Fm) : nV (ls ++ [f]) = max (nV ls) (lastV f) := by unfold nV; rw [List.foldl_append]; rfl
theorem WM_last : ∀ {l : List Mn} {n : Nat}, WM n l → ∀ m ∈ l, m.1 < (match l.getLast? with | some m => m.1 + 1 | none => 0) := by
  intro l
  induction l with
  | nil => intro n _ m hm; cases hm
  | cons x l ih =>
    intro n w m hm
    cases l with
    | nil => obtain rfl := List.mem_singleton.1 hm; exact Nat.lt_succ_self _
    | cons y k =>
      rw [List.getLast?_cons_cons]
      rcases List.mem_cons.1 hm with rfl | hm
      · have h1 := ih w.2.2 y (List.mem_cons_self ..)
        have h2 := w.2.2.1
        omega
      · exact ih w.2.2 m hm
theorem lastV_lt {f : Fm} (hw : WF f) : ∀ m ∈ f.1, m.1 < lastV f := WM_last hw
theorem nV_mono {ls : List Fm} : ∀ {i : Nat}, nV (ls.take i) ≤ nV (ls.take (i + 1)) := by
  intro i
  by_cases h : i < ls.length
  · rw [take_snoc h, nV_snoc]; omega
  · rw [List.take_of_length_le (by omega), List.take_of_length_le (by omega)]; exact Nat.le_refl _
theorem nV_ge {ls : List Fm} {f : Fm} (h : f ∈ ls) : lastV f ≤ nV ls := by
  obtain ⟨i, hi, rfl⟩ := List.mem_iff_getElem.1 h
  have h1 : lastV ls[i] ≤ nV (ls.take (i + 1)) := by rw [take_snoc hi, nV_snoc]; omega
  have h2 : ∀ k, nV (ls.take (i + 1)) ≤ nV (ls.take (i + 1 + k)) := fun k => by
    induction k with
    | zero => exact Nat.le_refl _
    | succ k ih => exact Nat.le_trans ih nV_mono
  have h3 := h2 ls.length
  rw [List.take_of_length_le (l := ls) (i := i + 1 + ls.length) (by omega)] at h3
  omega
theorem nV_le {ls : List Fm} {B : Nat} (h : ∀ f ∈ ls, lastV f ≤ B) : ∀ i, nV (ls.take i) ≤ B := by
  intro i
  induction i with
  | zero => rw [List.take_zero]; exact Nat.zero_le _
  | succ i ih =>
    by_cases hi : i < ls.length
    · rw [take_snoc hi, nV_snoc]; have := h _ (List.getElem_mem hi); omega
    · rw [List.take_of_length_le (by omega)] at ih ⊢; exact ih
theorem lastV_le {f : Fm} {B : Nat} (h : ∀ m ∈ f.1, m.1 < B) : lastV f ≤ B := by
  unfold lastV
  split
  · rename_i m e; exact h m (List.mem_of_getLast? e)
  · exact Nat.zero_le _
/-- How often a variable is in a sum of the first i; the constant. -/
def cS (ls : List Fm) (q : List Rat) : Nat → Nat → Rat
  | 0, _ => 0
  | i + 1, v => cS ls q i v + (coM (ls.getD i ([], 0)).1 v : Rat) * q.getD i 0
def kS (ls : List Fm) (q : List Rat) : Nat → Rat
  | 0 => 0
  | i + 1 => kS ls q i + ((ls.getD i ([], 0)).2 : Rat) * q.getD i 0
def fnL (n : Nat) (g : Nat → Rat) : List Rat := (List.range n).map g
theorem fnL_len {n : Nat} {g : Nat → Rat} : (fnL n g).length = n := by unfold fnL; simp
theorem fnL_get {n : Nat} {g : Nat → Rat} {i : Nat} (h : i < (fnL n g).length) : (fnL n g)[i] = g i := by
  have h' : i < ((List.range n).map g).length := h
  show ((List.range n).map g)[i]'h' = g i
  simp
theorem fnL_set {n : Nat} {g : Nat → Rat} {k : Nat} {y : Rat} : (fnL n g).set k y = fnL n (fun v => if v = k then y else g v) := by
  apply List.ext_getElem
  · simp [fnL]
  · intro i h1 h2
    rw [List.getElem_set, fnL_get, fnL_get]
    by_cases e : k = i
    · rw [if_pos e, if_pos e.symm]
    · rw [if_neg e, if_neg (fun h => e h.symm)]
theorem fnL_congr {n : Nat} {g g' : Nat → Rat} (h : ∀ v, g v = g' v) : fnL n g = fnL n g' := by rw [show g = g' from funext h]
theorem fnL_zero (n : Nat) : fnL n (fun _ => 0) = List.replicate n 0 := by
  unfold fnL
  rw [List.map_const', List.length_range]
theorem coM_snoc {l : List Mn} {m : Mn} : ∀ {n : Nat}, WM n (l ++ [m]) → ∀ v, coM (l ++ [m]) v = if v = m.1 then m.2 else coM l v := by
  induction l with
  | nil => intro n _ v; show (if m.1 = v then m.2 else 0) = if v = m.1 then m.2 else 0; split <;> split <;> first | rfl | omega
  | cons x l ih =>
    intro n w v
    show (if x.1 = v then x.2 else coM (l ++ [m]) v) = if v = m.1 then m.2 else (if x.1 = v then x.2 else coM l v)
    have hx : x.1 < m.1 := by
      have := WM.mem w.2.2 m (by simp)
      omega
    rw [ih w.2.2 v]
    by_cases e : x.1 = v
    · rw [if_pos e, if_neg (by omega), if_pos e]
    · rw [if_neg e, if_neg e]
theorem WM_take {l : List Mn} : ∀ {n : Nat} (i : Nat), WM n l → WM n (l.take i) := by
  induction l with
  | nil => intro n i _; rw [List.take_nil]; trivial
  | cons x l ih =>
    intro n i w
    cases i with
    | zero => trivial
    | succ i => exact ⟨w.1, w.2.1, ih i w.2.2⟩
theorem coM_take {l : List Mn} {n i : Nat} (w : WM n l) (h : i < l.length) (v : Nat) : coM (l.take (i + 1)) v = if v = l[i].1 then l[i].2 else coM (l.take i) v := by
  have := WM_take (i + 1) w
  rw [take_snoc h] at this ⊢
  exact coM_snoc this v
theorem coM_take_at {l : List Mn} {n i : Nat} (w : WM n l) (h : i < l.length) : coM (l.take i) l[i].1 = 0 := by
  have hw := WM_take (i + 1) w
  rw [take_snoc h] at hw
  have key : ∀ {k : List Mn} {n : Nat} {m : Mn}, WM n (k ++ [m]) → coM k m.1 = 0 := by
    intro k
    induction k with
    | nil => intros; rfl
    | cons x k ih =>
      intro n m w
      have hx := WM.mem w.2.2 m (by simp)
      show (if x.1 = m.1 then x.2 else coM k m.1) = 0
      rw [if_neg (by omega)]; exact ih w.2.2
  exact key hw
theorem lN_coM {N L : Nat} {f : Fm} (h : Bd N L f) (v : Nat) : lN (coM f.1 v) ≤ L := by rw [← coI_nat]; exact lN_coI h v
theorem lQ_cS {ls : List Fm} {q : List Rat} {N L K : Nat} (hL : 1 ≤ L) (hK : 1 ≤ K) (hls : ∀ f ∈ ls, Bd N L f) (hq : ∀ x ∈ q, lQ x ≤ K) (v : Nat) : ∀ i, lQ (cS ls q i v) ≤ 1 + i * (L + K + 1)
  | 0 => by have := lQ_zero; show lQ 0 ≤ _; omega
  | i + 1 => by
    have ih := lQ_cS hL hK hls hq v i
    have h1 := lQ_add (cS ls q i v) ((coM (ls.getD i ([], 0)).1 v : Rat) * q.getD i 0)
    have h2 := lQ_mul (coM (ls.getD i ([], 0)).1 v : Rat) (q.getD i 0)
    have h3 : lN (coM (ls.getD i ([], 0)).1 v) ≤ L := by
      rw [List.getD_eq_getElem?_getD]
      cases e : ls[i]? with
      | none => show lN 0 ≤ L; rw [lN_zero]; omega
      | some f => exact lN_coM (hls f (List.mem_of_getElem? e)) v
    have h4 : lQ (q.getD i 0) ≤ K := by
      rw [List.getD_eq_getElem?_getD]
      cases e : q[i]? with
      | none => have := lQ_zero; show lQ 0 ≤ K; omega
      | some x => exact hq x (List.mem_of_getElem? e)
    have h5 := lQ_int (coM (ls.getD i ([], 0)).1 v)
    show lQ (cS ls q i v + _) ≤ _
    rw [Nat.succ_mul]; omega
theorem lQ_kS {ls : List Fm} {q : List Rat} {N L K : Nat} (hL : 1 ≤ L) (hK : 1 ≤ K) (hls : ∀ f ∈ ls, Bd N L f) (hq : ∀ x ∈ q, lQ x ≤ K) : ∀ i, lQ (kS ls q i) ≤ 1 + i * (L + K + 1)
  | 0 => by have := lQ_zero; show lQ 0 ≤ _; omega
  | i + 1 => by
    have ih := lQ_kS hL hK hls hq i
    have h1 := lQ_add (kS ls q i) (((ls.getD i ([], 0)).2 : Rat) * q.getD i 0)
    have h2 := lQ_mul ((ls.getD i ([], 0)).2 : Rat) (q.getD i 0)
    have h3 : lN (ls.getD i ([], 0)).2 ≤ L := by
      rw [List.getD_eq_getElem?_getD]
      cases e : ls[i]? with
      | none => show lN 0 ≤ L; rw [lN_zero]; omega
      | some f => exact (hls f (List.mem_of_getElem? e)).2.2
    have h4 : lQ (q.getD i 0) ≤ K := by
      rw [List.getD_eq_getElem?_getD]
      cases e : q[i]? with
      | none => have := lQ_zero; show lQ 0 ≤ K; omega
      | some x => exact hq x (List.mem_of_getElem? e)
    have h5 := lQ_int (ls.getD i ([], 0)).2
    show lQ (kS ls q i + _) ≤ _
    rw [Nat.succ_mul]; omega
end Go.Proofs.Ytjmbhknhiakkpaa
