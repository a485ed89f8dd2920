/- At every input the call answers true and leaves its arguments as they were; no conditions. -/
import Derived.Test.YtgnfgaioeldagaaGreatVf
set_option linter.unusedSimpArgs false
set_option linter.unusedVariables false
namespace Go.Proofs.YtgnfgaioeldagaaGreat
open Go Go.Abs
set_option maxHeartbeats 16000000
theorem rowF_sort {l : List VR} {e : VR} {s : Int} (he : e.1 = s) : ∀ {rs : List Rw}, (∀ r ∈ rs, r.2.1 = s) → (rowF l e rs).1 = s
  | [], _ => he
  | r :: rs, h => by
    unfold rowF
    split
    · exact h r (List.mem_cons_self ..)
    · exact rowF_sort he fun r hr => h r (List.mem_cons_of_mem _ hr)
theorem ofV_sort {v : VR} {s : Int} (h : ofV v s = true) : v.1 = s := by
  unfold ofV at h
  simp only [Bool.and_eq_true, decide_eq_true_eq] at h
  exact h.1.1.1
theorem ofV_is {v : VR} {s : Int} (h : ofV v s = true) : IsZ v.2 := by
  unfold ofV at h
  simp only [Bool.and_eq_true, decide_eq_true_eq] at h
  exact h.1.2
theorem appF_sort {s : Sg} {l : List VR} : ∀ {m : List Fu}, m.all funB = true → (appF s l m).1 = s.2.2
  | [], _ => rfl
  | f :: m, h => by
    rw [List.all_cons, Bool.and_eq_true] at h
    unfold appF
    split
    · rename_i e
      have hf := h.1
      unfold funB at hf
      simp only [Bool.and_eq_true] at hf
      rw [← e]
      refine rowF_sort (ofV_sort hf.1.2) fun r hr => ?_
      have := List.all_eq_true.1 hf.2 r hr
      unfold rowB at this
      rw [Bool.and_eq_true] at this
      exact ofV_sort this.2
    · exact appF_sort h.2
theorem boolV_sort (b : Bool) : (boolV b).1 = 1 := by cases b <;> rfl
theorem isM_all {m : List Fu} (h : isM m = true) : m.all funB = true := by
  unfold isM at h; rw [Bool.and_eq_true] at h; exact h.1
theorem held_all (m : List Fu) : (heldM m).all funB = true := by
  unfold heldM
  split
  · rename_i h; exact isM_all h
  · rfl
theorem sortsB_ite {l : List Tm} (h : wrongE 12 l = 0) (hk : kidsB 12 l.length = true) : ∃ a b c, l = [a, b, c] ∧ c.sort = b.sort := by
  obtain ⟨a, b, c, rfl⟩ := len3 (l := l) (by simpa [kidsB] using hk)
  refine ⟨a, b, c, rfl, ?_⟩
  unfold wrongE at h
  split at h
  · rename_i e
    have e : (decide (a.sort = 1) && decide (c.sort = b.sort)) = true := e
    rw [Bool.and_eq_true] at e
    exact of_decide_eq_true e.2
  · cases h
theorem evalT_sort {m : List Fu} (hm : m.all funB = true) : ∀ t : Tm, okT t = true → (evalT m t).1 = t.sort := by
  refine Tm.ind fun t ih ho => ?_
  have hko := okT_kids ho
  rw [evalT_eq]
  unfold evalN
  have hnode : nodeB t = true := by rw [okT_all, Bool.and_eq_true] at ho; exact ho.2
  split
  · rename_i c
    unfold nodeB at hnode
    rw [if_pos c] at hnode
    simp only [Bool.and_eq_true, decide_eq_true_eq] at hnode
    exact hnode.1.2.symm
  · rename_i c1
    split
    · rename_i c
      unfold nodeB at hnode
      rw [if_neg c1, if_pos (.inl c)] at hnode
      simp only [Bool.and_eq_true, decide_eq_true_eq] at hnode
      rw [boolV_sort]; exact hnode.1.2.symm
    · split
      · rename_i c2 c
        unfold nodeB at hnode
        rw [if_neg c1, if_pos (.inr c)] at hnode
        simp only [Bool.and_eq_true, decide_eq_true_eq] at hnode
        rw [boolV_sort]; exact hnode.1.2.symm
      · split
        · exact appF_sort hm
        · rename_i c2 c3 c4
          obtain ⟨ho1, hkb, hso, hw⟩ := node_op ho (by omega)
          split
          · rename_i c12
            rw [c12] at hkb hso hw
            obtain ⟨a, b, c, hl, hbc⟩ := sortsB_ite hw hkb
            have hsb : t.sort = b.sort := by rw [hso, hl]; rfl
            have i1 := ih b (by rw [hl]; simp) (hko b (by rw [hl]; simp))
            have i2 := ih c (by rw [hl]; simp) (hko c (by rw [hl]; simp))
            rw [hl]
            show (if yesV (evalT m a) then evalT m b else evalT m c).1 = _
            split
            · rw [i1, hsb]
            · rw [i2, hsb, hbc]
          · split
            · rename_i c; exact c.symm
            · rename_i c12 c
              rw [boolV_sort, hso]
              have := sortR_one (by rw [← hso]; exact c)
              unfold sortR
              rw [if_neg this, if_neg c12]
set_option maxRecDepth 100000 in
theorem rv_Eval (t : Tm) (m : List Fu) (hF : FT t) (hK : KT t) (hn : t.nodes < 100000) (hm : limM m) (h4 : val4 m) : PCall Tryz.prog 16 [gT t, tLF m] (gV (evalM t m)) := by
  refine pcall_of_wpA mixed Tryz.call16 Tryz.func16 rfl Tryz.ntmps16 Tryz.results16 (by simp) (by decide) ?_
  have h1 := r_Is t hF hK
  have h3 := rv_May m hm
  rw [show gT t = TV.agg (cT t) from rfl, cT_eq] at h1
  unfold evalM
  cases c : isT t with
  | false =>
    rw [c] at h1
    rw [if_neg (by simp)]
    simp only [go_sem, cT_eq]
    refine call_pure h1 rfl ?_
    simp only [go_sem]
    exact fz_Cs (.cons .t (.cons .t (.cons .weak .nil)))
  | true =>
    rw [c] at h1
    have ho : okT t = true := by unfold isT at c; rw [Bool.and_eq_true] at c; exact c.2
    have h5 := rv_eval m hm h4 t.nodes t (Nat.le_refl _) (by omega) ho hF
    rw [show gT t = TV.agg (cT t) from rfl, cT_eq] at h5
    rw [if_pos rfl]
    generalize evalT (heldM m) t = r at *
    generalize heldM m = m2 at *
    simp only [go_sem, cT_eq]
    refine call_pure h1 rfl ?_
    simp only [go_sem]
    refine regA_by 0 rfl ?_
    simp only [go_sem, cT_eq]
    refine call_pure h3 rfl ?_
    simp only [go_sem]
    refine call_pure h5 rfl ?_
    simp only [go_sem]
    exact fz_Cs (.cons .t (.cons .t (.cons .t .nil)))
theorem evalM_lim {m : List Fu} {t : Tm} (h4 : val4 m) (hF : FT t) (hn : t.nodes < 100000) : limV (evalM t m) := by
  unfold evalM
  split
  · rename_i c
    exact evalT_lim (val4_held h4) (by unfold isT at c; rw [Bool.and_eq_true] at c; exact c.2) hF hn
  · have := boolV_len false; unfold limV; omega
theorem true_eval (t : Tm) (m : List Fu) : (isT t && decide (t.sort = 1) && yesV (evalT (heldM m) t)) = (decide ((evalM t m).1 = 1) && yesV (evalM t m)) := by
  unfold evalM
  cases c : isT t with
  | false =>
    rw [if_neg (by simp)]
    have : yesV (boolV false) = false := by
      unfold yesV
      refine decide_eq_false fun h => h ?_
      show zv zzI = 0
      exact ((zz_iff zzI).2 rfl).2
    rw [this]; simp
  | true =>
    rw [if_pos rfl, evalT_sort (held_all m) t (by unfold isT at c; rw [Bool.and_eq_true] at c; exact c.2), Bool.true_and]
set_option maxRecDepth 100000 in
theorem rv_True (l : List Tm) (m : List Fu) (hl : l.length < 1000000) (hF : ∀ t ∈ l, FT t) (hK : ∀ t ∈ l, KT t) (hn : ∀ t ∈ l, t.nodes < 100000) (hm : limM m) (h4 : val4 m) : PCall Tryz.prog 20 [tLT l, tLF m] (tB (trueM l m)) := by
  refine pcall_of_wpA mixed Tryz.call20 Tryz.func20 rfl Tryz.ntmps20 Tryz.results20 (by simp) (by decide) ?_
  obtain ⟨p, hp⟩ : ∃ p : Tm → Bool, p = fun t => isT t && decide (t.sort = 1) && yesV (evalT (heldM m) t) := ⟨_, rfl⟩
  have eT : trueM l m = l.all p := by rw [hp]; rfl
  rw [eT]
  simp only [go_sem]
  refine loop_inv (fun i : Nat => stL 27 [(0, .one (.t (eL cT l))), (1, .one (.t (eL cFu m))), (5, litI .i64 i)] []) (fun i => i ≤ l.length ∧ (l.take i).all p = true) (fun i => l.length - i) 0 ?_ ⟨Nat.zero_le _, by simp⟩ ?_
  · (refine gstep_list rfl ?_ ?_ ?_ ?_ <;> (try simp only [go_sem, tail_one]) <;> (try simp))
  · rintro i ⟨hi, hinv⟩
    simp only [go_sem]
    refine CondR_if (fun hlt => ?_) (fun hge => ?_)
    · have hlt' : i < l.length := by omega
      have hel : elemD cT l i = cT l[i] := elemD_lt hlt'
      have hs := all_take_succ (p := p) hlt'
      have hno := all_no (p := p) hlt'
      have hFt := hF _ (List.getElem_mem hlt')
      have hKt := hK _ (List.getElem_mem hlt')
      have hnt := hn _ (List.getElem_mem hlt')
      have ilt : ((i : Int) < (l.length : Int)) = True := eq_true (by omega)
      generalize l[i] = t at *
      have hpt : p t = (decide ((evalM t m).1 = 1) && yesV (evalM t m)) := by rw [hp]; exact true_eval t m
      have h1 := rv_Eval t m hFt hKt hnt hm h4
      have h2 := rv_Yes (evalM t m) (evalM_lim h4 hFt hnt)
      rw [show gT t = TV.agg (cT t) from rfl, cT_eq] at h1
      generalize evalM t m = r at *
      simp only [go_sem, hel, cT_eq, ilt]
      (repeat (refine And.intro (by omega) ?_))
      refine call_pure h1 rfl ?_
      cases c1 : decide (r.1 = 1) with
      | false =>
        rw [hno (by rw [hpt, c1]; rfl)]
        simp only [go_sem, dne, c1]
      | true =>
        cases c3 : yesV r with
        | false =>
          rw [c3] at h2
          rw [hno (by rw [hpt, c1, c3]; rfl)]
          simp only [go_sem, dne, c1]
          refine call_pure h2 rfl ?_
          simp only [go_sem]
        | true =>
          rw [c3] at h2
          simp only [go_sem, dne, c1]
          refine call_pure h2 rfl ?_
          simp only [go_sem]
          refine ⟨i + 1, ⟨hlt', by rw [hs, hinv, hpt, c1, c3]; rfl⟩, (by show l.length - (i + 1) < l.length - i; omega), ?_⟩
          (refine gstep_list rfl ?_ ?_ ?_ ?_ <;> (try simp only [go_sem, tail_one, wrap_i64 (n := (i : Int) + 1) (by omega) (by omega)]) <;> (try simp))
    · obtain rfl : i = l.length := by omega
      rw [List.take_length] at hinv
      rw [hinv]
      simp only [go_sem]
end Go.Proofs.YtgnfgaioeldagaaGreat
namespace Go.Proofs.YtgnfgaioeldagaaGreat
open Go Go.Abs
set_option maxHeartbeats 16000000
instance instRw : DecidableEq Rw := instDecidableEqProd
instance instRest : DecidableEq (List Rw × VR) := instDecidableEqProd
instance instFu : DecidableEq Fu := instDecidableEqProd
theorem fu_ext {a b : Fu} : a = b ↔ a.1 = b.1 ∧ a.2.2 = b.2.2 ∧ a.2.1 = b.2.1 := by
  obtain ⟨a1, a2, a3⟩ := a
  obtain ⟨b1, b2, b3⟩ := b
  simp only [Prod.mk.injEq]
  exact ⟨fun ⟨h1, h2, h3⟩ => ⟨h1, h3, h2⟩, fun ⟨h1, h3, h2⟩ => ⟨h1, h2, h3⟩⟩
theorem rw_ext {a b : Rw} : a = b ↔ a.1 = b.1 ∧ a.2 = b.2 := Prod.ext_iff
set_option maxRecDepth 100000 in
theorem rv_SameFuns (a b : List Fu) (ha : limM a) (hb : limM b) : PCall Tryz.prog 22 [tLF a, tLF b] (tB (decide (a = b))) := by
  refine pcall_of_wpA mixed Tryz.call22 Tryz.func22 rfl Tryz.ntmps22 Tryz.results22 (by simp) (by decide) ?_
  obtain ⟨al, af⟩ := ha
  obtain ⟨bl, bf⟩ := hb
  simp only [go_sem]
  refine CondR_if (fun hne => ?_) (fun he => ?_)
  · have : ¬ a = b := fun e => by subst e; exact hne rfl
    rw [decide_eq_false this]
    simp only [go_sem]
  · have hlen : a.length = b.length := by omega
    simp only [go_sem]
    refine loop_inv (fun i : Nat => stL 111 [(0, .one (.t (eL cFu a))), (1, .one (.t (eL cFu b))), (5, litI .i64 i)] []) (fun i => i ≤ a.length ∧ a.take i = b.take i) (fun i => a.length - i) 0 ?_ ⟨Nat.zero_le _, by simp⟩ ?_
    · (refine gstep_list rfl ?_ ?_ ?_ ?_ <;> (try simp only [go_sem, tail_one]) <;> (try simp))
    · rintro i ⟨hi, hinv⟩
      simp only [go_sem]
      refine CondR_if (fun hlt => ?_) (fun hge => ?_)
      · have hlt' : i < a.length := by omega
        have hlt2 : i < b.length := by omega
        have e1 : elemD cFu a i = cFu a[i] := elemD_lt hlt'
        have e2 : elemD cFu b i = cFu b[i] := elemD_lt hlt2
        have hs := take_succ_eq hlt' hlt2 hinv
        have hno : ¬ a[i] = b[i] → ¬ a = b := fun h e => h (by subst e; rfl)
        have i1 : ((i : Int) < (a.length : Int)) = True := eq_true (by omega)
        have i2 : ((i : Int) < (b.length : Int)) = True := eq_true (by omega)
        obtain ⟨p1, p2, p3, p4, p5⟩ := af _ (List.getElem_mem hlt')
        obtain ⟨q1, q2, q3, q4, q5⟩ := bf _ (List.getElem_mem hlt2)
        have h1 := r_SameSig a[i].1 b[i].1 (by omega)
        have h2 := rv_Same a[i].2.2 b[i].2.2 (by unfold limV at p5; omega) (by unfold limV at q5; omega)
        have hex := @fu_ext a[i] b[i]
        generalize a[i] = f at *
        generalize b[i] = g at *
        simp only [go_sem, e1, e2, i1, i2]
        refine regA_by 0 rfl ?_
        simp only [go_sem, e1, e2, i1, i2]
        (repeat (refine And.intro (by omega) ?_))
        refine call_pure h1 rfl ?_
        by_cases c1 : f.1 = g.1
        · rw [decide_eq_true c1]
          simp only [go_sem, e1, e2, i1, i2]
          (repeat (refine And.intro (by omega) ?_))
          refine call_pure h2 rfl ?_
          by_cases c2 : f.2.2 = g.2.2
          · rw [decide_eq_true c2]
            by_cases c3 : f.2.1.length = g.2.1.length
            · have f3 : decide ((f.2.1.length : Int) = (g.2.1.length : Int)) = true := decide_eq_true (by omega)
              simp only [go_sem, e1, e2, i1, i2, dne, f3]
              (repeat (refine And.intro (by omega) ?_))
              refine loop_inv (fun k : Nat => stL 111 [(0, .one (.t (eL cFu a))), (1, .one (.t (eL cFu b))), (5, litI .i64 i), (6, litI .i64 k)] []) (fun k => k ≤ f.2.1.length ∧ f.2.1.take k = g.2.1.take k) (fun k => f.2.1.length - k) 0 ?_ ⟨Nat.zero_le _, by simp⟩ ?_
              · (refine gstep_list rfl ?_ ?_ ?_ ?_ <;> (try simp only [go_sem, tail_one]) <;> (try simp))
              · rintro k ⟨hk, hkv⟩
                simp only [go_sem, e1, e2, i1, i2]
                (repeat (refine And.intro (by omega) ?_))
                refine CondR_if (fun klt => ?_) (fun kge => ?_)
                · have klt' : k < f.2.1.length := by omega
                  have klt2 : k < g.2.1.length := by omega
                  have k1 : elemD cRw f.2.1 k = cRw f.2.1[k] := elemD_lt klt'
                  have k2 : elemD cRw g.2.1 k = cRw g.2.1[k] := elemD_lt klt2
                  have ks := take_succ_eq klt' klt2 hkv
                  have kno : ¬ f.2.1[k] = g.2.1[k] → ¬ f = g := fun h e => h (by subst e; rfl)
                  have j1 : ((k : Int) < (f.2.1.length : Int)) = True := eq_true (by omega)
                  have j2 : ((k : Int) < (g.2.1.length : Int)) = True := eq_true (by omega)
                  obtain ⟨x1, x2, x3⟩ := p4 _ (List.getElem_mem klt')
                  obtain ⟨y1, y2, y3⟩ := q4 _ (List.getElem_mem klt2)
                  have h3 := rv_SameArgs f.2.1[k].1 g.2.1[k].1 x1 x2 y2
                  have h4 := rv_Same f.2.1[k].2 g.2.1[k].2 (by unfold limV at x3; omega) (by unfold limV at y3; omega)
                  have rex := @rw_ext f.2.1[k] g.2.1[k]
                  generalize f.2.1[k] = r at *
                  generalize g.2.1[k] = s at *
                  simp only [go_sem, e1, e2, i1, i2, k1, k2, j1, j2]
                  refine regA_by 0 rfl ?_
                  simp only [go_sem, e1, e2, i1, i2, k1, k2, j1, j2]
                  (repeat (refine And.intro (by omega) ?_))
                  refine call_pure h3 rfl ?_
                  by_cases d1 : r.1 = s.1
                  · rw [decide_eq_true d1]
                    simp only [go_sem, e1, e2, i1, i2, k1, k2, j1, j2]
                    (repeat (refine And.intro (by omega) ?_))
                    refine call_pure h4 rfl ?_
                    by_cases d2 : r.2 = s.2
                    · rw [decide_eq_true d2]
                      simp only [go_sem]
                      refine ⟨k + 1, ⟨klt', ks.2 (rex.2 ⟨d1, d2⟩)⟩, (by show f.2.1.length - (k + 1) < f.2.1.length - k; omega), ?_⟩
                      (refine gstep_list rfl ?_ ?_ ?_ ?_ <;> (try simp only [go_sem, tail_one, wrap_i64 (n := (k : Int) + 1) (by omega) (by omega)]) <;> (try simp))
                    · rw [decide_eq_false d2, decide_eq_false (hno (kno fun e => d2 (rex.1 e).2))]
                      simp only [go_sem]
                  · rw [decide_eq_false d1, decide_eq_false (hno (kno fun e => d1 (rex.1 e).1))]
                    simp only [go_sem]
                · obtain rfl : k = f.2.1.length := by omega
                  rw [List.take_length, c3, List.take_length] at hkv
                  simp only [go_sem]
                  refine ⟨i + 1, ⟨hlt', hs.2 (hex.2 ⟨c1, c2, hkv⟩)⟩, (by show a.length - (i + 1) < a.length - i; omega), ?_⟩
                  (refine gstep_list rfl ?_ ?_ ?_ ?_ <;> (try simp only [go_sem, tail_one, wrap_i64 (n := (i : Int) + 1) (by omega) (by omega)]) <;> (try simp))
            · have f3 : decide ((f.2.1.length : Int) = (g.2.1.length : Int)) = false := decide_eq_false (by omega)
              rw [decide_eq_false (hno fun e => c3 (by rw [e]))]
              simp only [go_sem, e1, e2, i1, i2, dne, f3]
              try omega
          · rw [decide_eq_false c2, decide_eq_false (hno fun e => c2 (hex.1 e).2.1)]
            simp only [go_sem]
        · rw [decide_eq_false c1, decide_eq_false (hno fun e => c1 (hex.1 e).1)]
          simp only [go_sem]
      · obtain rfl : i = a.length := by omega
        rw [List.take_length, hlen, List.take_length] at hinv
        rw [decide_eq_true hinv]
        simp only [go_sem]
end Go.Proofs.YtgnfgaioeldagaaGreat
namespace Go.Proofs.YtgnfgaioeldagaaGreat
open Go Go.Abs
set_option maxHeartbeats 16000000
/-! ### A structure with a function more -/
theorem rise_pw : ∀ {m : List Fu}, riseB m = true → m.Pairwise (fun a b => sLt a.1.1 b.1.1 = true)
  | [], _ => .nil
  | [a], _ => .cons (fun b hb => by cases hb) .nil
  | a :: b :: m, h => by
    unfold riseB at h
    rw [Bool.and_eq_true] at h
    have ih := rise_pw h.2
    refine .cons (fun c hc => ?_) ih
    rcases List.mem_cons.1 hc with rfl | hc
    · exact h.1
    · exact sLt_trans h.1 ((List.pairwise_cons.1 ih).1 c hc)
theorem held_rise (m : List Fu) : (heldM m).Pairwise (fun a b => sLt a.1.1 b.1.1 = true) := by
  unfold heldM
  split
  · rename_i h
    unfold isM at h
    rw [Bool.and_eq_true] at h
    exact rise_pw h.2
  · exact .nil
def stepW (f : Fu) (s : List Fu × Bool) (g : Fu) : List Fu × Bool :=
  (s.1 ++ (if (!s.2 && !(sLt g.1.1 f.1.1)) then [f] else []) ++ (if g.1.1 = f.1.1 then [] else [g]), s.2 || !(sLt g.1.1 f.1.1))
def finW (f : Fu) (s : List Fu × Bool) : List Fu := if s.2 then s.1 else s.1 ++ [f]
theorem foldW_done (f : Fu) : ∀ (m : List Fu) (acc : List Fu), (∀ g ∈ m, sLt f.1.1 g.1.1 = true) → m.foldl (stepW f) (acc, true) = (acc ++ m, true)
  | [], acc, _ => by simp
  | g :: m, acc, h => by
    have hg := h g (List.mem_cons_self ..)
    have e : stepW f (acc, true) g = (acc ++ [g], true) := by
      unfold stepW
      rw [if_neg (by simp), if_neg (fun e => sLt_ne hg e.symm)]; simp
    rw [List.foldl_cons, e, foldW_done f m _ fun x hx => h x (List.mem_cons_of_mem _ hx)]
    simp
theorem filter_gt {f : Fu} {m : List Fu} (h : ∀ g ∈ m, sLt f.1.1 g.1.1 = true) : m.filter (fun g => sLt g.1.1 f.1.1) = [] ∧ m.filter (fun g => sLt f.1.1 g.1.1) = m :=
  ⟨List.filter_eq_nil_iff.2 fun g hg => by rw [sLt_asymm (h g hg)]; simp, List.filter_eq_self.2 h⟩
theorem foldW (f : Fu) : ∀ (m : List Fu) (acc : List Fu), m.Pairwise (fun a b => sLt a.1.1 b.1.1 = true) → finW f (m.foldl (stepW f) (acc, false)) = acc ++ putF m f
  | [], acc, _ => by simp [finW, putF]
  | g :: m, acc, h => by
    obtain ⟨h1, h2⟩ := List.pairwise_cons.1 h
    rw [List.foldl_cons]
    rcases sLt_tri g.1.1 f.1.1 with c | c | c
    · have e : stepW f (acc, false) g = (acc ++ [g], false) := by
        unfold stepW
        rw [c, if_neg (sLt_ne c)]; simp
      rw [e, foldW f m _ h2]
      unfold putF
      rw [List.filter_cons_of_pos (by simpa using c), List.filter_cons_of_neg (by rw [sLt_asymm c]; simp)]
      simp
    · have hall : ∀ x ∈ m, sLt f.1.1 x.1.1 = true := fun x hx => c ▸ h1 x hx
      have e : stepW f (acc, false) g = (acc ++ [f], true) := by
        unfold stepW
        rw [c, sLt_irrefl, if_pos (by simp), if_pos rfl]; simp
      rw [e, foldW_done f m _ hall]
      obtain ⟨q1, q2⟩ := filter_gt hall
      unfold putF finW
      rw [List.filter_cons_of_neg (by rw [c, sLt_irrefl]; simp), List.filter_cons_of_neg (by rw [c, sLt_irrefl]; simp), q1, q2]
      simp
    · have hall : ∀ x ∈ m, sLt f.1.1 x.1.1 = true := fun x hx => sLt_trans c (h1 x hx)
      have e : stepW f (acc, false) g = (acc ++ [f] ++ [g], true) := by
        unfold stepW
        rw [sLt_asymm c, if_pos (by simp), if_neg (fun e => sLt_ne c e.symm)]; simp
      rw [e, foldW_done f m _ hall]
      obtain ⟨q1, q2⟩ := filter_gt hall
      unfold putF finW
      rw [List.filter_cons_of_neg (by rw [sLt_asymm c]; simp), List.filter_cons_of_pos (by simpa using c), q1, q2]
      simp
theorem stepW_len (f : Fu) (s : List Fu × Bool) (g : Fu) : (stepW f s g).1.length ≤ s.1.length + 2 := by
  unfold stepW
  rw [List.length_append, List.length_append]
  have a : (if (!s.2 && !(sLt g.1.1 f.1.1)) then [f] else []).length ≤ 1 := by split <;> simp
  have b : (if g.1.1 = f.1.1 then [] else [g]).length ≤ 1 := by split <;> simp
  omega
theorem foldW_len (f : Fu) : ∀ (m : List Fu) (s : List Fu × Bool), (m.foldl (stepW f) s).1.length ≤ s.1.length + 2 * m.length
  | [], s => by simp
  | g :: m, s => by
    rw [List.foldl_cons, List.length_cons]
    have := foldW_len f m (stepW f s g)
    have := stepW_len f s g
    omega
theorem fold_take_succ {α β : Type} {l : List α} {f : β → α → β} {b : β} {i : Nat} (h : i < l.length) : (l.take (i + 1)).foldl f b = f ((l.take i).foldl f b) l[i] := by
  rw [List.take_succ_eq_append_getElem h, List.foldl_append]; rfl
set_option maxRecDepth 100000 in
theorem rv_With (x : List Fu) (f : Fu) (hm : limM x) : PCall Tryz.prog 64 [tLF x, gFu f] (tLF (putF (heldM x) f)) := by
  refine pcall_of_wpA mixed Tryz.call64 Tryz.func64 rfl Tryz.ntmps64 Tryz.results64 (by simp) (by decide) ?_
  have hM := rv_May x hm
  have hmml := (limM_held hm).1
  have hrs := held_rise x
  generalize heldM x = m at *
  have hfin := foldW f m [] hrs
  rw [List.nil_append] at hfin
  have hlenW : ∀ i, ((m.take i).foldl (stepW f) ([], false)).1.length ≤ 2 * m.length := fun i => by
    have := foldW_len f (m.take i) ([], false)
    have h2 : (m.take i).length ≤ m.length := by rw [List.length_take]; omega
    simp only [List.length_nil, Nat.zero_add] at this
    omega
  obtain ⟨W, hW⟩ : ∃ W : Nat → List Fu × Bool, W = fun i => (m.take i).foldl (stepW f) ([], false) := ⟨_, rfl⟩
  have hW0 : W 0 = ([], false) := by rw [hW]; rfl
  have hWs : ∀ i (h : i < m.length), W (i + 1) = stepW f (W i) m[i] := fun i h => by rw [hW]; exact fold_take_succ h
  have hWn : finW f (W m.length) = putF m f := by rw [hW]; show finW f ((m.take m.length).foldl _ _) = _; rw [List.take_length]; exact hfin
  have hWl : ∀ i, (W i).1.length ≤ 2 * m.length := fun i => by rw [hW]; exact hlenW i
  rw [← hWn]
  clear hfin hlenW hWn
  simp only [go_sem]
  refine call_pure hM rfl ?_
  simp only [go_sem]
  refine loop_inv (fun i : Nat => stL 59 [(3, .one (.ptr 3 0)), (5, .one (.t (eL cFu m))), (6, accA 1000 7 (W i).1), (7, litB (W i).2), (8, litI .i64 i)] (accE 1000 cFu (W i).1 ++ [(3, (cFu f).map .t)]))
    (fun i => i ≤ m.length) (fun i => m.length - i) 0 ?_ (Nat.zero_le _) ?_
  · rw [hW0]
    (refine gstep_list rfl ?_ ?_ ?_ ?_ <;> (try simp only [go_sem, tail_one]) <;> (try simp))
  · intro i hi
    have hl1 := hWl i
    have hst0 := hWs i
    generalize hWi : W i = s at *
    obtain ⟨acc, d⟩ := s
    have hl1 : acc.length ≤ 2 * m.length := hl1
    simp only [go_sem]
    refine CondR_if (fun hlt => ?_) (fun hge => ?_)
    · have hlt' : i < m.length := by omega
      have hel : elemD cFu m i = cFu m[i] := elemD_lt hlt'
      have hst := hst0 hlt'
      have ilt : ((i : Int) < (m.length : Int)) = True := eq_true (by omega)
      generalize m[i] = g at *
      have hle := sLe_not f.1.1 g.1.1
      have heq := bytes_eq g.1.1 f.1.1
      obtain ⟨q2, hq2⟩ : ∃ q2, decide (g.1.1 = f.1.1) = q2 := ⟨_, rfl⟩
      rw [hq2] at heq
      obtain ⟨q1, hq1⟩ : ∃ q1, sLt g.1.1 f.1.1 = q1 := ⟨_, rfl⟩
      rw [hq1] at hle
      cases d with
      | true =>
        simp only [go_sem]
        refine regA_by 0 rfl ?_
        simp only [go_sem]
        have hs2 : decide (g.1.1 = f.1.1) = q2 := hq2
        cases q2 with
        | true =>
          try simp only [go_sem]
          refine regA_by 0 rfl ?_
          simp only [go_sem, hel, ilt, heq]
          (repeat (refine And.intro (by omega) ?_))
          refine ⟨i + 1, hlt', (by show m.length - (i + 1) < m.length - i; omega), ?_⟩
          have hn : W (i + 1) = (acc, true) := by rw [hst]; unfold stepW; rw [if_pos (of_decide_eq_true hs2), List.append_nil]; simp
          (refine gstep_list rfl ?_ ?_ ?_ ?_ <;> (try simp only [go_sem, tail_one, hn, wrap_i64 (n := (i : Int) + 1) (by omega) (by omega)]) <;> (try simp))
        | false =>
          try simp only [go_sem]
          refine regA_by 0 rfl ?_
          simp only [go_sem, hel, ilt, heq]
          (repeat (refine And.intro (by omega) ?_))
          refine opA_app_acc (sz := 7) (bytes := 112) (by simp only [go_sem, AppTy] <;> decide) cFu_len (acc) [g] (b := 1000) (by simp only [go_sem] <;> rfl) (by simp only [go_sem] <;> rfl) (by simp only [go_sem] <;> rfl) rfl (by simp) (by simp only [List.length_cons, List.length_nil, List.length_append] at *; omega) (by decide) ?_
          simp only [go_sem]
          refine ⟨i + 1, hlt', (by show m.length - (i + 1) < m.length - i; omega), ?_⟩
          have hn : W (i + 1) = (acc ++ [g], true) := by rw [hst]; unfold stepW; rw [if_neg (of_decide_eq_false hs2)]; simp
          (refine gstep_list rfl ?_ ?_ ?_ ?_ <;> (try simp only [go_sem, tail_one, hn, wrap_i64 (n := (i : Int) + 1) (by omega) (by omega)]) <;> (try simp))
      | false =>
        cases q1 with
        | true =>
          simp only [go_sem]
          refine regA_by 0 rfl ?_
          simp only [go_sem, hel, ilt, hle]
          (repeat (refine And.intro (by omega) ?_))
          have hs2 : decide (g.1.1 = f.1.1) = q2 := hq2
          cases q2 with
          | true =>
            try simp only [go_sem]
            refine regA_by 0 rfl ?_
            simp only [go_sem, hel, ilt, heq]
            (repeat (refine And.intro (by omega) ?_))
            refine ⟨i + 1, hlt', (by show m.length - (i + 1) < m.length - i; omega), ?_⟩
            have hn : W (i + 1) = (acc, false) := by rw [hst]; unfold stepW; rw [if_pos (of_decide_eq_true hs2), List.append_nil]; simp [hq1]
            (refine gstep_list rfl ?_ ?_ ?_ ?_ <;> (try simp only [go_sem, tail_one, hn, wrap_i64 (n := (i : Int) + 1) (by omega) (by omega)]) <;> (try simp))
          | false =>
            try simp only [go_sem]
            refine regA_by 0 rfl ?_
            simp only [go_sem, hel, ilt, heq]
            (repeat (refine And.intro (by omega) ?_))
            refine opA_app_acc (sz := 7) (bytes := 112) (by simp only [go_sem, AppTy] <;> decide) cFu_len (acc) [g] (b := 1000) (by simp only [go_sem] <;> rfl) (by simp only [go_sem] <;> rfl) (by simp only [go_sem] <;> rfl) rfl (by simp) (by simp only [List.length_cons, List.length_nil, List.length_append] at *; omega) (by decide) ?_
            simp only [go_sem]
            refine ⟨i + 1, hlt', (by show m.length - (i + 1) < m.length - i; omega), ?_⟩
            have hn : W (i + 1) = (acc ++ [g], false) := by rw [hst]; unfold stepW; rw [if_neg (of_decide_eq_false hs2)]; simp [hq1]
            (refine gstep_list rfl ?_ ?_ ?_ ?_ <;> (try simp only [go_sem, tail_one, hn, wrap_i64 (n := (i : Int) + 1) (by omega) (by omega)]) <;> (try simp))
        | false =>
          simp only [go_sem]
          refine regA_by 0 rfl ?_
          simp only [go_sem, hel, ilt, hle]
          (repeat (refine And.intro (by omega) ?_))
          refine opA_app_acc (sz := 7) (bytes := 112) (by simp only [go_sem, AppTy] <;> decide) cFu_len acc [f] (b := 1000) (by simp only [go_sem] <;> rfl) (by simp only [go_sem] <;> rfl) (by simp only [go_sem] <;> rfl) rfl (by simp) (by simp only [List.length_cons, List.length_nil] at *; omega) (by decide) ?_
          have hs2 : decide (g.1.1 = f.1.1) = q2 := hq2
          cases q2 with
          | true =>
            try simp only [go_sem]
            refine regA_by 0 rfl ?_
            simp only [go_sem, hel, ilt, heq]
            (repeat (refine And.intro (by omega) ?_))
            refine ⟨i + 1, hlt', (by show m.length - (i + 1) < m.length - i; omega), ?_⟩
            have hn : W (i + 1) = (acc ++ [f], true) := by rw [hst]; unfold stepW; rw [if_pos (of_decide_eq_true hs2), List.append_nil]; simp [hq1]
            (refine gstep_list rfl ?_ ?_ ?_ ?_ <;> (try simp only [go_sem, tail_one, hn, wrap_i64 (n := (i : Int) + 1) (by omega) (by omega)]) <;> (try simp))
          | false =>
            try simp only [go_sem]
            refine regA_by 0 rfl ?_
            simp only [go_sem, hel, ilt, heq]
            (repeat (refine And.intro (by omega) ?_))
            refine opA_app_acc (sz := 7) (bytes := 112) (by simp only [go_sem, AppTy] <;> decide) cFu_len (acc ++ [f]) [g] (b := 1000) (by simp only [go_sem] <;> rfl) (by simp only [go_sem] <;> (cases acc <;> rfl)) (by simp only [go_sem] <;> rfl) rfl (by simp) (by simp only [List.length_cons, List.length_nil, List.length_append] at *; omega) (by decide) ?_
            simp only [go_sem]
            refine ⟨i + 1, hlt', (by show m.length - (i + 1) < m.length - i; omega), ?_⟩
            have hn : W (i + 1) = (acc ++ [f] ++ [g], true) := by rw [hst]; unfold stepW; rw [if_neg (of_decide_eq_false hs2)]; simp [hq1]
            (refine gstep_list rfl ?_ ?_ ?_ ?_ <;> (try simp only [go_sem, tail_one, hn, wrap_i64 (n := (i : Int) + 1) (by omega) (by omega)]) <;> (try simp))
    · obtain rfl : i = m.length := by omega
      rw [hWi]
      cases d with
      | true =>
        simp only [go_sem]
        rw [show finW f (acc, true) = acc from rfl]
        refine fz_accA cFu_len ?_
        cases acc with
        | nil => exact .inl rfl
        | cons z zs => right; rfl
      | false =>
        simp only [go_sem]
        refine opA_app_acc (sz := 7) (bytes := 112) (by simp only [go_sem, AppTy] <;> decide) cFu_len acc [f] (b := 1000) (by simp only [go_sem] <;> rfl) (by simp only [go_sem] <;> rfl) (by simp only [go_sem] <;> rfl) rfl (by simp) (by simp only [List.length_cons, List.length_nil] at *; omega) (by decide) ?_
        simp only [go_sem]
        rw [show finW f (acc, false) = acc ++ [f] from rfl]
        refine fz_accA cFu_len ?_
        right
        cases acc <;> rfl
set_option maxRecDepth 100000 in
theorem rv_Put (x : List Fu) (name : ByteArray) (v : VR) (hm : limM x) : PCall Tryz.prog 24 [tLF x, tS name, gV v] (tLF (putM x name v)) := by
  refine pcall_of_wpA mixed Tryz.call24 Tryz.func24 rfl Tryz.ntmps24 Tryz.results24 (by simp) (by decide) ?_
  have h := (rv_With x ((name, [], v.1), [], v) hm).tw (tvs' := [tLF x, .agg [.lit (.string name), .seq (some true) [], .lit (.int .i64 v.1), .seq (some true) [], .lit (.int .i64 v.1), .lit (.bool v.2.1), eN v.2.2]]) (.cons .refl1 (.cons (.agg (.cons .refl (.cons .weak (.cons .refl (.cons .weak TWs.refl))))) .nil))
  rw [show putF (heldM x) ((name, [], v.1), [], v) = putM x name v from rfl] at h
  generalize putM x name v = r at *
  simp only [go_sem]
  refine call_pure h rfl ?_
  simp only [go_sem]
  exact fz_eL
end Go.Proofs.YtgnfgaioeldagaaGreat
namespace Go.Proofs.YtgnfgaioeldagaaGreat
open Go Go.Abs
set_option maxHeartbeats 16000000
theorem _root_.Go.Abs.PCall.nilH {P : Program} {f : FuncId} {xs : List (List T)} {rest : List TV} {r : TV} (h0 : xs = [] → PCall P f (.one (.seq (some true) []) :: rest) r) (h1 : PCall P f (.one (.seq (some false) xs) :: rest) r) : PCall P f (.one (.seq none xs) :: rest) r := by
  refine ⟨h1.1, fun ok w vs hok hv => ?_⟩
  obtain ⟨hs, hg⟩ := hv
  have h := hg 0 (by simp) (by rw [hs]; simp)
  rcases RA.nilSplit h with ⟨e, h⟩ | h
  · refine (h0 e).2 ok w vs hok ⟨by simpa using hs, fun i hi hi' => ?_⟩
    cases i with
    | zero => exact h
    | succ i => exact hg (i + 1) (by simpa using hi) hi'
  · refine h1.2 ok w vs hok ⟨by simpa using hs, fun i hi hi' => ?_⟩
    cases i with
    | zero => exact h
    | succ i => exact hg (i + 1) (by simpa using hi) hi'
set_option maxRecDepth 100000 in
theorem v_Put1 (hC : CmpSpec) (f : Fu) (s : ByteArray) : PCall Tryz.prog 61 [gFu f, tS s] (tI .i64 (sCmp f.1.1 s)) := by
  refine pcall_of_wpA mixed Tryz.call61 Tryz.func61 rfl Tryz.ntmps61 Tryz.results61 (by simp) (by decide) ?_
  have h := hC f.1.1 s
  simp only [go_sem]
  refine call_pure h rfl ?_
  simp only [go_sem]
theorem sCmp_lt (a b : ByteArray) : decide (sCmp a b < 0) = sLt a b := by
  unfold sCmp
  cases c : sLt a b with
  | true => simp
  | false => rw [if_neg (by simp)]; split <;> simp
theorem sCmp_eq (a b : ByteArray) : decide (sCmp a b = 0) = decide (a = b) := by
  unfold sCmp
  cases c : sLt a b with
  | true => rw [if_pos rfl, decide_eq_false (sLt_ne c)]; rfl
  | false =>
    rw [if_neg (by simp)]
    by_cases e : a = b
    · rw [if_pos e, decide_eq_true e]; rfl
    · rw [if_neg e, decide_eq_false e]; rfl
set_option maxRecDepth 100000 in
theorem s_Search (hC : CmpSpec) (nl : Option Bool) (m : List Fu) (name : ByteArray) (hm : m.length < 1000000000) (i : Nat) (hi : i ≤ m.length) (h1 : ∀ k (h : k < m.length), k < i → sLt m[k].1.1 name = true) (h2 : ∀ k (h : k < m.length), i ≤ k → sLt m[k].1.1 name = false)
    (q : Bool) (hq0 : i = m.length → q = false) (hq1 : ∀ h : i < m.length, q = decide (m[i].1.1 = name)) :
    PCall Tryz.prog 60 [.one (.seq nl (m.map cFu)), tS name, .one (.clo 61 [])] (.tup [tI .i64 i, tB q]) := by
  refine pcall_of_wpA mixed Tryz.call60 Tryz.func60 rfl Tryz.ntmps60 Tryz.results60 (by simp) (by decide) ?_
  have elm : ∀ k (h : k < m.length), (m.map cFu).getD k [] = cFu m[k] := fun k h => by simp [h]
  have hsz : ∀ x ∈ m.map cFu, x.length = 7 := fun x hx => by obtain ⟨f, _, rfl⟩ := List.mem_map.1 hx; rfl
  simp only [go_sem]
  refine loop_inv (fun p : Nat × Nat => stL 49 [(0, .one (.t (.seq nl (m.map cFu)))), (1, .one (.t (.lit (.string name)))), (2, .one (.t (.clo 61 []))), (8, litI .i64 m.length), (9, litI .i64 p.1), (10, litI .i64 p.2)] [])
    (fun p => p.1 ≤ i ∧ i ≤ p.2 ∧ p.2 ≤ m.length) (fun p => p.2 - p.1) (0, m.length) ?_ ⟨Nat.zero_le _, hi, Nat.le_refl _⟩ ?_
  · (refine gstep_list rfl ?_ ?_ ?_ ?_ <;> (try simp only [go_sem, tail_one]) <;> (try simp))
  · rintro ⟨lo, hi2⟩ ⟨b1, b2, b3⟩
    simp only at b1 b2 b3 ⊢
    simp only [go_sem]
    refine CondR_if (fun hlt => ?_) (fun hge => ?_)
    · obtain ⟨h, hh⟩ : ∃ h : Nat, h = (lo + hi2) / 2 := ⟨_, rfl⟩
      have w1 : IntKind.i64.wrap ((lo : Int) + (hi2 : Int)) = ((lo + hi2 : Nat) : Int) := by rw [wrap_i64 (by omega) (by omega)]; omega
      have w2 : IntKind.u64.wrap ((lo + hi2 : Nat) : Int) = ((lo + hi2 : Nat) : Int) := wrap_u64 (by omega) (by omega)
      have w3 : Int.fdiv ((lo + hi2 : Nat) : Int) 2 = (h : Int) := by rw [Int.fdiv_eq_ediv_of_nonneg _ (by decide)]; omega
      have w4 : IntKind.i64.wrap (h : Int) = (h : Int) := wrap_i64 (by omega) (by omega)
      have hl : h < m.length := by omega
      have hel := elm h hl
      have hlt2 : ((h : Int) < (m.length : Int)) = True := eq_true (by omega)
      have hh0 : ((0 : Int) ≤ (h : Int)) = True := eq_true (by omega)
      have hc := v_Put1 hC m[h] name
      have hlo := h1 h hl
      have hhi := h2 h hl
      have cl := sCmp_lt m[h].1.1 name
      generalize m[h] = g at *
      generalize sCmp g.1.1 name = n at *
      simp only [go_sem, w1, w2, w3, w4, hlt2, hh0, hel, hsz, Int.toNat_natCast]
      refine ⟨hsz, ?_⟩
      refine call_pure hc rfl ?_
      by_cases c : h < i
      · rw [hlo c] at cl
        simp only [go_sem, cl]
        refine ⟨(h + 1, hi2), ⟨by show h + 1 ≤ i; omega, b2, b3⟩, (by show hi2 - (h + 1) < hi2 - lo; omega), ?_⟩
        (refine gstep_list rfl ?_ ?_ ?_ ?_ <;> (try simp only [go_sem, tail_one, wrap_i64 (n := (h : Int) + 1) (by omega) (by omega)]) <;> (try simp))
      · rw [hhi (by omega)] at cl
        simp only [go_sem, cl]
        refine ⟨(lo, h), ⟨b1, by show i ≤ h; omega, by show h ≤ m.length; omega⟩, (by show h - lo < hi2 - lo; omega), ?_⟩
        (refine gstep_list rfl ?_ ?_ ?_ ?_ <;> (try simp only [go_sem, tail_one]) <;> (try simp))
    · obtain rfl : lo = i := by omega
      by_cases c : lo < m.length
      · have f1 : decide ((lo : Int) < (m.length : Int)) = true := decide_eq_true (by omega)
        have hel := elm lo c
        have hlt2 : ((lo : Int) < (m.length : Int)) = True := eq_true (by omega)
        have hh0 : ((0 : Int) ≤ (lo : Int)) = True := eq_true (by omega)
        have hc := v_Put1 hC m[lo] name
        have hq := hq1 c
        have cl := sCmp_eq m[lo].1.1 name
        generalize m[lo] = g at *
        generalize sCmp g.1.1 name = n at *
        rw [← hq] at cl
        simp only [go_sem, f1, hlt2, hh0, hel, Int.toNat_natCast]
        refine ⟨hsz, ?_⟩
        refine call_pure hc rfl ?_
        simp only [go_sem, cl]
        exact fz_tup2 (.one .t) (.one .t)
      · have f1 : decide ((lo : Int) < (m.length : Int)) = false := decide_eq_false (by omega)
        rw [hq0 (by omega)]
        simp only [go_sem, f1]
        exact fz_tup2 (.one .t) (.one .t)
end Go.Proofs.YtgnfgaioeldagaaGreat
namespace Go.Proofs.YtgnfgaioeldagaaGreat
open Go Go.Abs
set_option maxHeartbeats 16000000
theorem cFus_tree {xs : List Fu} : (cellsL cFu xs).all treeC = true := cellsL_tree
set_option maxRecDepth 100000 in
theorem f_Clone (xs : List Fu) (hl : xs.length < 1000000000) : FCall Tryz.prog 63 [.one (.seq (some false) (xs.map cFu))] 7 xs.length (cellsL cFu xs) := by
  refine fcall_of_wpA (b := 5) mixed Tryz.call63 Tryz.func63 rfl Tryz.ntmps63 Tryz.results63 (by simp) (by decide) ?_ ?_
  · exact cFus_tree
  simp only [go_sem]
  refine opA_build0 5 7 rfl (Nat.le_refl _) (by simp only [go_sem] <;> decide) (by simp only [go_sem]) (by decide) ?_
  simp only [go_sem]
  refine opA_app_vec (Nat.le_refl _) (sz := 7) (bytes := 112) (by simp only [go_sem, AppTy] <;> decide) cFu_len [] xs (by simp only [go_sem] <;> rfl) rfl (by simp only [go_sem] <;> rfl) (by simp only [go_sem] <;> rfl) rfl (by simp; omega) (by decide) ?_
  simp only [go_sem]
  exact ⟨[], by simp⟩
set_option maxRecDepth 100000 in
theorem p_CloneNil : PCall Tryz.prog 63 [.one (.seq (some true) [])] (.one (.seq (some true) [])) := by
  refine pcall_of_wpA mixed Tryz.call63 Tryz.func63 rfl Tryz.ntmps63 Tryz.results63 (by simp) (by decide) ?_
  simp only [go_sem]
  exact fz_emb (.one (.seq (some true) []))
set_option maxRecDepth 100000 in
theorem v_held2 (hS : SmallSpec) (hI : IdxSpec) (nl : Option Bool) (m : List Fu) (hm : limM m) : PCall Tryz.prog 51 [.one (.seq nl (m.map cFu))] (.one (.seq (if isM m then nl else some true) ((heldM m).map cFu))) := by
  refine pcall_of_wpA mixed Tryz.call51 Tryz.func51 rfl Tryz.ntmps51 Tryz.results51 (by simp) (by decide) ?_
  have h := (v_Is hS hI m hm).tw (tvs' := [.one (.seq nl (m.map cFu))]) (.cons (.one .weak) .nil)
  unfold heldM
  cases c : isM m with
  | true =>
    rw [c] at h
    simp only [go_sem]
    refine call_pure h rfl ?_
    simp only [go_sem]
    exact fz_emb (.one (.seq nl (m.map cFu)))
  | false =>
    rw [c] at h
    simp only [go_sem]
    refine call_pure h rfl ?_
    simp only [go_sem]
    exact fz_emb (.one (.seq (some true) []))
theorem search_split (f : Fu) : ∀ m : List Fu, m.Pairwise (fun a b => sLt a.1.1 b.1.1 = true) → ∃ (i : Nat) (q : Bool), i ≤ m.length ∧ (∀ k (h : k < m.length), k < i → sLt m[k].1.1 f.1.1 = true) ∧ (∀ k (h : k < m.length), i ≤ k → sLt m[k].1.1 f.1.1 = false) ∧
    (i = m.length → q = false) ∧ (∀ h : i < m.length, q = decide (m[i].1.1 = f.1.1)) ∧ m.take i ++ [f] ++ m.drop (i + q.toNat) = putF m f
  | [], _ => ⟨0, false, Nat.le_refl _, fun k h => by simp at h, fun k h => by simp at h, fun _ => rfl, fun h => by simp at h, rfl⟩
  | g :: m, hp => by
    obtain ⟨h1, h2⟩ := List.pairwise_cons.1 hp
    cases c : sLt g.1.1 f.1.1 with
    | true =>
      obtain ⟨i, q, a1, a2, a3, a4, a5, a6⟩ := search_split f m h2
      refine ⟨i + 1, q, by simp; omega, fun k h hk => ?_, fun k h hk => ?_, fun e => a4 (by simpa using e), fun h => ?_, ?_⟩
      · cases k with
        | zero => exact c
        | succ k => exact a2 k (by simpa using h) (by omega)
      · cases k with
        | zero => omega
        | succ k => exact a3 k (by simpa using h) (by omega)
      · exact a5 (by simpa using h)
      · have e : putF (g :: m) f = g :: putF m f := by
          unfold putF
          rw [List.filter_cons_of_pos (by simpa using c), List.filter_cons_of_neg (by rw [sLt_asymm c]; simp)]
          simp
        rw [e, ← a6, show i + 1 + q.toNat = (i + q.toNat) + 1 by omega]
        rfl
    | false =>
      have hge : ∀ x ∈ m, sLt f.1.1 x.1.1 = true := fun x hx => by
        rcases sLt_tri g.1.1 f.1.1 with d | d | d
        · rw [d] at c; cases c
        · rw [← d]; exact h1 x hx
        · exact sLt_trans d (h1 x hx)
      obtain ⟨q1, q2⟩ := filter_gt hge
      refine ⟨0, decide (g.1.1 = f.1.1), Nat.zero_le _, fun k h hk => by omega, fun k h _ => ?_, fun e => by simp at e, fun h => rfl, ?_⟩
      · cases k with
        | zero => exact c
        | succ k => exact sLt_asymm (hge _ (List.getElem_mem _))
      · unfold putF
        rw [List.filter_cons_of_neg (by rw [c]; simp), q1]
        by_cases d : g.1.1 = f.1.1
        · rw [decide_eq_true d, List.filter_cons_of_neg (by rw [d, sLt_irrefl]; simp), q2]; rfl
        · rw [decide_eq_false d]
          have hfg : sLt f.1.1 g.1.1 = true := by
            rcases sLt_tri g.1.1 f.1.1 with e | e | e
            · rw [e] at c; cases c
            · exact (d e).elim
            · exact e
          rw [List.filter_cons_of_pos (by simpa using hfg), q2]; rfl
set_option maxRecDepth 100000 in
theorem v_Put0 (hS : SmallSpec) (hI : IdxSpec) (hC : CmpSpec) (nl : Option Bool) (x : List Fu) (name : ByteArray) (v : VR) (hm : limM x) (hnl : (nl = some true ∧ x = []) ∨ nl = some false) :
    PCall Tryz.prog 23 [.one (.seq nl (x.map cFu)), tS name, gV v] (tLF (putM x name v)) := by
  refine pcall_of_wpA mixed Tryz.call23 Tryz.func23 rfl Tryz.ntmps23 Tryz.results23 (by simp) (by decide) ?_
  have hH := v_held2 hS hI nl x hm
  have hml := (limM_held hm).1
  obtain ⟨i, q, a1, a2, a3, a4, a5, a6⟩ := search_split ((name, [], v.1), [], v) (heldM x) (held_rise x)
  have hnl2 : ((if isM x then nl else some true) = some true ∧ heldM x = []) ∨ (if isM x then nl else some true) = some false := by
    unfold heldM
    split
    · exact hnl
    · exact .inl ⟨rfl, rfl⟩
  rw [show putM x name v = putF (heldM x) ((name, [], v.1), [], v) from rfl, ← a6]
  obtain ⟨R, hR⟩ : ∃ R, R = (heldM x).take i ++ [((name, [], v.1), [], v)] ++ (heldM x).drop (i + q.toNat) := ⟨_, rfl⟩
  rw [← hR]
  generalize (if isM x then nl else some true) = nl2 at *
  generalize heldM x = m at *
  clear hm hnl
  have hSr := s_Search hC nl2 m name hml i a1 a2 a3 q a4 a5
  have hsz : ∀ y ∈ m.map cFu, y.length = 7 := fun y hy => by obtain ⟨f, _, rfl⟩ := List.mem_map.1 hy; rfl
  have i0 : ((0 : Int) ≤ (i : Int)) = True := eq_true (by omega)
  simp only [go_sem]
  refine call_pure hH rfl ?_
  simp only [go_sem]
  refine call_clo [] rfl hSr trivial (by simp only [go_sem] <;> rfl) ?_
  simp only [go_sem]
  refine regA_g (gstep_weakH 7 (cs := [.t (.lit (.string name)), .t (.seq (some true) []), .t (.lit (.int .i64 v.1)), .t (.seq (some true) []), .t (.lit (.int .i64 v.1)), .t (.lit (.bool v.2.1)), .t (eN v.2.2)]) (cs' := (cFu ((name, [], v.1), [], v)).map .t) (by simp only [go_sem] <;> rfl)
    (.cons .refl (.cons .seq (.cons .refl (.cons .seq (.cons .refl (.cons .refl (.cons .refl .nil)))))))) ?_
  rcases hnl2 with ⟨rfl, rfl⟩ | rfl
  · obtain rfl : i = 0 := by simpa using a1
    have hq := a4 rfl
    subst hq
    refine regA_by 0 rfl ?_
    simp only [go_sem]
    refine ⟨(fun y hy => by cases hy), ?_⟩
    refine call_pure p_CloneNil rfl ?_
    simp only [go_sem]
    refine opA_app_acc (sz := 7) (bytes := 112) (by simp only [go_sem, AppTy] <;> decide) cFu_len [] [((name, [], v.1), [], v)] (b := 1000) (by simp only [go_sem] <;> rfl) (by simp only [go_sem] <;> rfl) (by simp only [go_sem] <;> rfl) rfl (by simp) (by simp) (by decide) ?_
    simp only [go_sem]
    refine ⟨(fun y hy => by cases hy), ?_⟩
    refine opA_app_vec (Nat.le_refl _) (sz := 7) (bytes := 112) (by simp only [go_sem, AppTy] <;> decide) cFu_len [((name, [], v.1), [], v)] [] (b := 1000) (by simp only [go_sem] <;> rfl) rfl (by simp only [go_sem] <;> rfl) (by simp only [go_sem] <;> rfl) rfl (by simp) (by decide) ?_
    rw [show R = [((name, [], v.1), [], v)] from hR]
    simp only [go_sem]
    exact fz_vecA cFu_len (by simp only [go_sem] <;> rfl) rfl
  · have hel7 : (m.map cFu).take i = (m.take i).map cFu := by rw [List.map_take]
    have hel8 : ∀ j, ((m.map cFu).take m.length).drop j = (m.drop j).map cFu := fun j => by
      rw [List.take_of_length_le (by simp), List.map_drop]
    have hcl := f_Clone (m.take i) (by rw [List.length_take]; omega)
    have htl : (m.take i).length = i := by rw [List.length_take]; omega
    rw [htl, List.map_take] at hcl
    refine regA_any 8 rfl ?_
    refine AnyS.take' 0 rfl (by decide +kernel) (by decide +kernel) (by decide +kernel) (by simp only [go_sem]) (pureAt_move rfl) ?_
    refine AnyS.take' 1 rfl (by decide +kernel) (by decide +kernel) (by decide +kernel) (by simp only [go_sem]) (pureAt_move rfl) ?_
    refine AnyS.take' 2 rfl (by decide +kernel) (by decide +kernel) (by decide +kernel) (by simp only [go_sem]) (pureAt_slice (t := 28) (n := m.length) (l := 0) (hh := i) rfl (by simp only [go_sem]) (by simp only [go_sem]) (by simp only [go_sem]) (by simp only [go_sem] <;> exact hsz) (by simp only [go_sem]) (by simp only [go_sem]) (by simp only [go_sem, i0, Int.toNat_natCast]) (by omega) a1 (by simp only [go_sem])) ?_
    simp only [go_sem]
    refine AnyS.two' 3 4 (by decide +kernel) rfl rfl (by simp only [go_sem]) (by simp only [go_sem]) ?_ ?_
    · simp only [go_sem]
      refine call_new 28 (.inr rfl) hcl (by simp only [go_sem] <;> rfl) (by simp only [go_sem] <;> rfl) (by decide) ?_
      (try simp only [go_sem])
      refine AnyS.one' 4 (by decide +kernel) rfl (by simp only [go_sem]) ?_
      simp only [go_sem]
      refine AnyS.one' 5 (by decide +kernel) rfl (by simp only [go_sem]) ?_
      simp only [go_sem]
      refine AnyS.one' 6 (by decide +kernel) rfl (by simp only [go_sem]) ?_
      simp only [go_sem]
      refine opA_app_vec (Nat.le_refl _) (sz := 7) (bytes := 112) (by simp only [go_sem, AppTy] <;> decide) cFu_len (m.take i) [((name, [], v.1), [], v)] (b := 28) (by simp only [go_sem] <;> rfl) htl.symm (by simp only [go_sem] <;> rfl) (by simp only [go_sem] <;> rfl) rfl (by rw [htl]; simp; omega) (by decide) ?_
      (try simp only [go_sem])
      refine AnyS.one' 7 (by decide +kernel) rfl (by simp only [go_sem]) ?_
      simp only [go_sem]
      refine AnyS.done (by decide +kernel) ?_
      generalize hG : m.take i ++ [((name, [], v.1), [], v)] = G at *
      have hGl : G.length = i + 1 := by rw [← hG, List.length_append, htl]; rfl
      cases q with
      | true =>
        have w1 : IntKind.i64.wrap ((i : Int) + 1) = (i : Int) + 1 := wrap_i64 (by omega) (by omega)
        have hlt : i < m.length := by
          rcases Nat.lt_or_ge i m.length with c | c
          · exact c
          · have := a4 (by omega); cases this
        have i1 : ((0 : Int) ≤ (i : Int) + 1) = True := eq_true (by omega)
        have i2 : ((i : Int) + 1).toNat = i + 1 := by omega
        simp only [go_sem, w1, i1, i2]
        refine ⟨⟨hsz, by omega⟩, ?_⟩
        refine opA_app_vec (Nat.le_refl _) (sz := 7) (bytes := 112) (by simp only [go_sem, AppTy] <;> decide) cFu_len G (m.drop (i + 1)) (b := 28) (by simp only [go_sem] <;> rfl) rfl (by simp only [go_sem] <;> rfl) (by simp only [go_sem] <;> rfl) (hel8 _) (by rw [hGl, List.length_drop]; omega) (by decide) ?_
        rw [show R = G ++ m.drop (i + 1) from hR]
        simp only [go_sem]
        exact fz_vecA cFu_len (by simp only [go_sem] <;> rfl) rfl
      | false =>
        simp only [go_sem, i0, Int.toNat_natCast]
        refine ⟨⟨hsz, by omega⟩, ?_⟩
        refine opA_app_vec (Nat.le_refl _) (sz := 7) (bytes := 112) (by simp only [go_sem, AppTy] <;> decide) cFu_len G (m.drop i) (b := 28) (by simp only [go_sem] <;> rfl) rfl (by simp only [go_sem] <;> rfl) (by simp only [go_sem] <;> rfl) (hel8 _) (by rw [hGl, List.length_drop]; omega) (by decide) ?_
        rw [show R = G ++ m.drop i from hR]
        simp only [go_sem]
        exact fz_vecA cFu_len (by simp only [go_sem] <;> rfl) rfl
    · simp only [go_sem]
      refine AnyS.two' 3 5 (by decide +kernel) rfl rfl (by simp only [go_sem]) (by simp only [go_sem]) ?_ ?_
      · simp only [go_sem]
        refine call_new 28 (.inr rfl) hcl (by simp only [go_sem] <;> rfl) (by simp only [go_sem] <;> rfl) (by decide) ?_
        (try simp only [go_sem])
        refine AnyS.one' 5 (by decide +kernel) rfl (by simp only [go_sem]) ?_
        simp only [go_sem]
        refine AnyS.one' 6 (by decide +kernel) rfl (by simp only [go_sem]) ?_
        simp only [go_sem]
        refine opA_app_vec (Nat.le_refl _) (sz := 7) (bytes := 112) (by simp only [go_sem, AppTy] <;> decide) cFu_len (m.take i) [((name, [], v.1), [], v)] (b := 28) (by simp only [go_sem] <;> rfl) htl.symm (by simp only [go_sem] <;> rfl) (by simp only [go_sem] <;> rfl) rfl (by rw [htl]; simp; omega) (by decide) ?_
        (try simp only [go_sem])
        refine AnyS.one' 7 (by decide +kernel) rfl (by simp only [go_sem]) ?_
        simp only [go_sem]
        refine AnyS.done (by decide +kernel) ?_
        generalize hG : m.take i ++ [((name, [], v.1), [], v)] = G at *
        have hGl : G.length = i + 1 := by rw [← hG, List.length_append, htl]; rfl
        cases q with
        | true =>
          have w1 : IntKind.i64.wrap ((i : Int) + 1) = (i : Int) + 1 := wrap_i64 (by omega) (by omega)
          have hlt : i < m.length := by
            rcases Nat.lt_or_ge i m.length with c | c
            · exact c
            · have := a4 (by omega); cases this
          have i1 : ((0 : Int) ≤ (i : Int) + 1) = True := eq_true (by omega)
          have i2 : ((i : Int) + 1).toNat = i + 1 := by omega
          simp only [go_sem, w1, i1, i2]
          refine ⟨⟨hsz, by omega⟩, ?_⟩
          refine opA_app_vec (Nat.le_refl _) (sz := 7) (bytes := 112) (by simp only [go_sem, AppTy] <;> decide) cFu_len G (m.drop (i + 1)) (b := 28) (by simp only [go_sem] <;> rfl) rfl (by simp only [go_sem] <;> rfl) (by simp only [go_sem] <;> rfl) (hel8 _) (by rw [hGl, List.length_drop]; omega) (by decide) ?_
          rw [show R = G ++ m.drop (i + 1) from hR]
          simp only [go_sem]
          exact fz_vecA cFu_len (by simp only [go_sem] <;> rfl) rfl
        | false =>
          simp only [go_sem, i0, Int.toNat_natCast]
          refine ⟨⟨hsz, by omega⟩, ?_⟩
          refine opA_app_vec (Nat.le_refl _) (sz := 7) (bytes := 112) (by simp only [go_sem, AppTy] <;> decide) cFu_len G (m.drop i) (b := 28) (by simp only [go_sem] <;> rfl) rfl (by simp only [go_sem] <;> rfl) (by simp only [go_sem] <;> rfl) (hel8 _) (by rw [hGl, List.length_drop]; omega) (by decide) ?_
          rw [show R = G ++ m.drop i from hR]
          simp only [go_sem]
          exact fz_vecA cFu_len (by simp only [go_sem] <;> rfl) rfl
      · simp only [go_sem]
        refine AnyS.one' 3 (by decide +kernel) rfl (by simp only [go_sem]) ?_
        simp only [go_sem]
        refine call_new 28 (.inr rfl) hcl (by simp only [go_sem] <;> rfl) (by simp only [go_sem] <;> rfl) (by decide) ?_
        (try simp only [go_sem])
        refine AnyS.one' 6 (by decide +kernel) rfl (by simp only [go_sem]) ?_
        simp only [go_sem]
        refine opA_app_vec (Nat.le_refl _) (sz := 7) (bytes := 112) (by simp only [go_sem, AppTy] <;> decide) cFu_len (m.take i) [((name, [], v.1), [], v)] (b := 28) (by simp only [go_sem] <;> rfl) htl.symm (by simp only [go_sem] <;> rfl) (by simp only [go_sem] <;> rfl) rfl (by rw [htl]; simp; omega) (by decide) ?_
        (try simp only [go_sem])
        refine AnyS.one' 7 (by decide +kernel) rfl (by simp only [go_sem]) ?_
        simp only [go_sem]
        refine AnyS.done (by decide +kernel) ?_
        generalize hG : m.take i ++ [((name, [], v.1), [], v)] = G at *
        have hGl : G.length = i + 1 := by rw [← hG, List.length_append, htl]; rfl
        cases q with
        | true =>
          have w1 : IntKind.i64.wrap ((i : Int) + 1) = (i : Int) + 1 := wrap_i64 (by omega) (by omega)
          have hlt : i < m.length := by
            rcases Nat.lt_or_ge i m.length with c | c
            · exact c
            · have := a4 (by omega); cases this
          have i1 : ((0 : Int) ≤ (i : Int) + 1) = True := eq_true (by omega)
          have i2 : ((i : Int) + 1).toNat = i + 1 := by omega
          simp only [go_sem, w1, i1, i2]
          refine ⟨⟨hsz, by omega⟩, ?_⟩
          refine opA_app_vec (Nat.le_refl _) (sz := 7) (bytes := 112) (by simp only [go_sem, AppTy] <;> decide) cFu_len G (m.drop (i + 1)) (b := 28) (by simp only [go_sem] <;> rfl) rfl (by simp only [go_sem] <;> rfl) (by simp only [go_sem] <;> rfl) (hel8 _) (by rw [hGl, List.length_drop]; omega) (by decide) ?_
          rw [show R = G ++ m.drop (i + 1) from hR]
          simp only [go_sem]
          exact fz_vecA cFu_len (by simp only [go_sem] <;> rfl) rfl
        | false =>
          simp only [go_sem, i0, Int.toNat_natCast]
          refine ⟨⟨hsz, by omega⟩, ?_⟩
          refine opA_app_vec (Nat.le_refl _) (sz := 7) (bytes := 112) (by simp only [go_sem, AppTy] <;> decide) cFu_len G (m.drop i) (b := 28) (by simp only [go_sem] <;> rfl) rfl (by simp only [go_sem] <;> rfl) (by simp only [go_sem] <;> rfl) (hel8 _) (by rw [hGl, List.length_drop]; omega) (by decide) ?_
          rw [show R = G ++ m.drop i from hR]
          simp only [go_sem]
          exact fz_vecA cFu_len (by simp only [go_sem] <;> rfl) rfl
set_option maxRecDepth 100000 in
theorem v_Put (hS : SmallSpec) (hI : IdxSpec) (hC : CmpSpec) (x : List Fu) (name : ByteArray) (v : VR) (hm : limM x) : PCall Tryz.prog 23 [tLF x, tS name, gV v] (tLF (putM x name v)) := by
  refine PCall.nilH (fun h => ?_) (v_Put0 hS hI hC (some false) x name v hm (.inr rfl))
  obtain rfl : x = [] := by simpa using h
  exact v_Put0 hS hI hC (some true) [] name v hm (.inl ⟨rfl, rfl⟩)
end Go.Proofs.YtgnfgaioeldagaaGreat
