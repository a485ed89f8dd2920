/- At every input the call answers true and leaves its arguments as they were; no conditions. -/
import Derived.Test.YtfgejnedaijjiaaGreatCd
import Derived.Test.YtfgejnedaijjiaaGreatMg
set_option linter.unusedSimpArgs false
set_option linter.unusedVariables false
namespace Go.Proofs.YtfgejnedaijjiaaGreat
open Go Go.Abs
set_option maxHeartbeats 16000000
/-! ### cut.Round -/
theorem mer_snoc {c : Int} {j : Nat} : ∀ {l : List Mn}, (∀ m ∈ l, m.1 < j) → mer l [(j, c)] = l ++ [(j, c)]
  | [], _ => by rw [mer_nil_left]; rfl
  | x :: l, h => by
    have hx := h x (List.mem_cons_self ..)
    rw [mer_cons, if_pos hx, mer_snoc fun m hm => h m (List.mem_cons_of_mem _ hm)]; rfl
theorem rdM_lt (G : List Rat) : ∀ j, ∀ m ∈ rdM G j, m.1 < j
  | 0, m, h => by cases h
  | j + 1, m, h => by
    have ih := rdM_lt G j
    unfold rdM at h; split at h
    · have := ih m h; omega
    · rcases List.mem_append.1 h with h | h
      · have := ih m h; omega
      · obtain rfl := List.mem_singleton.1 h; exact Nat.lt_succ_self _
theorem WM_snoc {m : Mn} (hm : m.2 ≠ 0) : ∀ {l : List Mn} {n : Nat}, WM n l → n ≤ m.1 → (∀ x ∈ l, x.1 < m.1) → WM n (l ++ [m])
  | [], n, _, h, _ => ⟨h, hm, trivial⟩
  | x :: l, n, w, h, hl => ⟨w.1, w.2.1, WM_snoc hm w.2.2 (hl x (List.mem_cons_self ..)) fun y hy => hl y (List.mem_cons_of_mem _ hy)⟩
theorem WM_rdM (G : List Rat) : ∀ j, WM 0 (rdM G j)
  | 0 => trivial
  | j + 1 => by
    unfold rdM; split
    · exact WM_rdM G j
    · rename_i h; exact WM_snoc h (WM_rdM G j) (Nat.zero_le _) (rdM_lt G j)
theorem rd_put (G : List Rat) (j : Nat) : addF (rdM G j, 0) (scF (varF j) (G.getD j 0).num) = (rdM G (j + 1), 0) := by
  show addF (rdM G j, 0) (scF (varF j) (G.getD j 0).num) = (if (G.getD j 0).num = 0 then rdM G j else rdM G j ++ [(j, (G.getD j 0).num)], 0)
  unfold scF
  split
  · show (mer (rdM G j) [], (0 : Int) + 0) = _
    rw [mer_nil_right]; rfl
  · show (mer (rdM G j) [(j, 1 * (G.getD j 0).num)], (0 : Int) + 0 * (G.getD j 0).num) = _
    rw [Int.one_mul, Int.zero_mul, mer_snoc (rdM_lt G j)]; rfl
theorem rd_most (l : List Mn) (c : Int) : addF (l, 0) (scF (constF (-c)) (-1)) = (l, c) := by
  unfold scF
  rw [if_neg (by decide)]
  show (mer l [], (0 : Int) + -c * -1) = _
  rw [mer_nil_right]; congr 1; omega
theorem Bd_rdM {G : List Rat} {K : Nat} (hG : ∀ g ∈ G, lQ g ≤ K) : ∀ j, j ≤ G.length → j < 1000000 → Bd j K (rdM G j, 0) := by
  intro j
  induction j with
  | zero => intro _ _; exact ⟨Nat.le_refl _, (fun m hm => by cases hm), by show lN 0 ≤ K; rw [lN_zero]; omega⟩
  | succ j ih =>
    intro hj hj2
    obtain ⟨h1, h2, h3⟩ := ih (by omega) (by omega)
    have hl := rdM_len G (j + 1)
    refine ⟨hl, fun m hm => ?_, h3⟩
    have hm' : m ∈ rdM G (j + 1) := hm
    unfold rdM at hm'; split at hm'
    · exact h2 m hm'
    · rcases List.mem_append.1 hm' with hm' | hm'
      · exact h2 m hm'
      · obtain rfl := List.mem_singleton.1 hm'
        have hg : G.getD j 0 = G[j] := by rw [List.getD_eq_getElem?_getD, List.getElem?_eq_getElem (by omega)]; rfl
        have := hG _ (List.getElem_mem (l := G) (n := j) (by omega))
        have l2 := lQ_num G[j]
        exact ⟨by show j < _; omega, by show lN (G.getD j 0).num ≤ K; rw [hg]; omega⟩
theorem weak_bF0 : WeakL [.t (.seq (some true) []), .t (.lit (.bool false)), .t (.seq (some true) [])] ((cF (([] : List Mn), (0 : Int))).map .t) := weak_cF0
set_option maxRecDepth 100000 in
theorem c_Round (a : List LL) (x : List QQ) (G : List Rat) (k : Rat) {K : Nat} (hK1 : 1 ≤ K) (hK : K ≤ 1000) (hs : PCall Tryz.prog 29 [.one (eL cL a), tLQ (x.take (min a.length x.length))] (.tup [tLR G, eQ k])) (ha : a.length < 1000000) (hx : x.length < 1000000) (hxk : ∀ q ∈ x, q.2.1.length ≤ K ∧ q.2.2.length ≤ K) (hG : G.length < 1000000) (hGk : ∀ g ∈ G, lQ g ≤ K) (hk : lQ k ≤ K) :
    PCall Tryz.prog 36 [.one (eL cL a), tLQ x] (rdT a x G k) := by
  refine pcall_of_wpA mixed Tryz.call36 Tryz.func36 rfl Tryz.ntmps36 Tryz.results36 (by simp) (by decide) ?_
  obtain ⟨m, hm⟩ : ∃ m, m = min a.length x.length := ⟨_, rfl⟩
  have hm1 : m ≤ a.length := by omega
  have hm2 : m ≤ x.length := by omega
  obtain ⟨y, hy⟩ : ∃ y, y = x.take m := ⟨_, rfl⟩
  have hyl : y.length = m := by rw [hy, List.length_take]; omega
  have hyk : ∀ q ∈ y, q.2.1.length ≤ K ∧ q.2.2.length ≤ K := fun q hq => hxk q (List.mem_of_mem_take (hy ▸ hq))
  rw [← hm, ← hy] at hs
  have c1 := c_ContainsFunc y (fun q => decide (qQ q < 0)) 81 (by omega) (fun q hq => c_Round1 q (by omega) hK1 (hyk q hq).1 (hyk q hq).2)
  have rawk : ∀ q ∈ G.map rawQ, q.2.1.length ≤ K ∧ q.2.2.length ≤ K := fun q hq => by
    obtain ⟨g, hg, rfl⟩ := List.mem_map.1 hq
    have h1 := hGk g hg
    have h2 := lQ_num g
    have h3 := lQ_den g
    rw [lN_nat'] at h3
    unfold lN at h2
    exact ⟨by show (dig g.num.natAbs).length ≤ K; omega, by show (dig g.den).length ≤ K; omega⟩
  have c2 := c_ContainsFunc (G.map rawQ) (fun q => decide (¬ (qQ q).den = 1)) 84 (by rw [List.length_map]; omega) (fun q hq => c_Round2 q (by omega) hK1 (rawk q hq).1 (rawk q hq).2)
  rw [eL_raw] at c2
  have e1 : y.any (fun q => decide (qQ q < 0)) = decide (negX a x) := by
    rw [Bool.eq_iff_iff, List.any_eq_true, decide_eq_true_eq]
    unfold negX
    rw [← hm, ← hy]
    exact ⟨fun ⟨q, h1, h2⟩ => ⟨q, h1, of_decide_eq_true h2⟩, fun ⟨q, h1, h2⟩ => ⟨q, h1, decide_eq_true h2⟩⟩
  have e2 : (G.map rawQ).any (fun q => decide (¬ (qQ q).den = 1)) = decide (brkG G) := by
    rw [Bool.eq_iff_iff, List.any_eq_true, decide_eq_true_eq]
    unfold brkG
    constructor
    · rintro ⟨q, h1, h2⟩
      obtain ⟨g, hg, rfl⟩ := List.mem_map.1 h1
      have h2 := of_decide_eq_true h2
      rw [qQ_raw] at h2; exact ⟨g, hg, h2⟩
    · rintro ⟨g, hg, h2⟩
      exact ⟨rawQ g, List.mem_map.2 ⟨g, hg, rfl⟩, by rw [qQ_raw]; exact decide_eq_true h2⟩
  rw [e1] at c1
  rw [e2] at c2
  have hmin : (if (a.length : Int) < (x.length : Int) then (a.length : Int) else (x.length : Int)) = (m : Int) := by split <;> omega
  have ck := q_Ceil_e k (by omega)
  generalize hcl : -(-k).floor = cl at *
  have lcl : lN cl ≤ 2000 := by
    have := lN_floor (-k)
    have h1 := lQ_neg k
    have h2 := lQ_num (-k)
    have h3 : lN cl = lN (-k).floor := by rw [← hcl, lN_neg]
    omega
  have cn := w_Neg_e cl (by omega)
  simp only [go_sem]
  (repeat (refine And.intro (by omega) ?_))
  refine opA_min rfl (by simp only [go_sem] <;> rfl) (by simp only [go_sem] <;> rfl) (Nat.le_refl _) ?_
  rw [hmin]
  have hm0 : ((0 : Int) ≤ (m : Int)) = True := eq_true (by omega)
  simp only [go_sem, hm0, hy.symm]
  (repeat (refine And.intro (by omega) ?_))
  refine call_pure hs rfl ?_
  simp only [go_sem]
  (repeat (refine And.intro (by omega) ?_))
  refine call_a rfl c1 rfl ?_
  by_cases n1 : negX a x
  · have n1' : decide (negX a x) = true := decide_eq_true n1
    have e : rdT a x G k = .tup [eF ([], 0), tB false] := if_pos (.inl n1)
    rw [e, eF_zero]
    simp only [go_sem, n1']
    exact fz_tup2 (fz_agg3 .weak .t .weak) (.one .t)
  · have n1' : decide (negX a x) = false := decide_eq_false n1
    simp only [go_sem, n1']
    refine call_a rfl c2 rfl ?_
    by_cases n2 : brkG G
    · have n2' : decide (brkG G) = true := decide_eq_true n2
      have e : rdT a x G k = .tup [eF ([], 0), tB false] := if_pos (.inr n2)
      rw [e, eF_zero]
      simp only [go_sem, n2']
      exact fz_tup2 (fz_agg3 .weak .t .weak) (.one .t)
    · have n2' : decide (brkG G) = false := decide_eq_false n2
      have e : rdT a x G k = .tup [eF (rdM G G.length, cl), tB true] := by
        rw [← hcl]; exact if_neg (fun h => h.elim n1 n2)
      rw [e]
      simp only [go_sem, n2']
      (repeat (refine And.intro (by omega) ?_))
      obtain ⟨Fi, hFi⟩ : ∃ Fi : Nat → Fm, Fi = fun j => (rdM G j, 0) := ⟨_, rfl⟩
      have hF0 : Fi 0 = ([], 0) := by rw [hFi]; rfl
      have hFj : ∀ j, Fi j = (rdM G j, 0) := fun j => by rw [hFi]
      refine loop_inv (fun j : Nat => stL 54 [(4, .one (.ptr 4 0)), (8, .one (.ptr 8 0)), (9, .one (.ptr 9 0)), (33, aLR G), (34, litI .i64 G.length), (35, litI .i64 j)]
        [(4, [.t (.seq (some true) []), .t (.lit (.bool false)), .t (.seq (some true) [])]), (8, (cR k).map .t), (9, (cF (Fi j)).map .t)]) (fun j => j ≤ G.length) (fun j => G.length - j) 0 ?_ (Nat.zero_le _) ?_
      · refine GStep.trans (gstep_weakH 9 (cs := [.t (.seq (some true) []), .t (.lit (.bool false)), .t (.seq (some true) [])]) (by simp only [go_sem] <;> rfl) weak_bF0) ?_
        rw [hF0]
        (refine gstep_list rfl ?_ ?_ ?_ ?_ <;> (try simp only [go_sem, tail_one]) <;> (try simp))
      · intro j hj
        simp only [go_sem]
        refine CondR_if (fun hjl => ?_) (fun hjge => ?_)
        · have hjl' : j < G.length := by omega
          have hej : elemD cR G j = cR G[j] := elemD_lt hjl'
          have hgd : G.getD j 0 = G[j] := by rw [List.getD_eq_getElem?_getD, List.getElem?_eq_getElem hjl']; rfl
          have hb := Bd_rdM hGk j (by omega) (by omega)
          have lg := hGk _ (List.getElem_mem hjl')
          have ln := lQ_num G[j]
          have p1 := c_put (rdM G j, 0) (G.getD j 0).num j (N := j + 1) (L := 2000) (by omega) (by omega) (by decide) (WM_rdM G j) ⟨by have := hb.1; omega, (fun m hm => by have := hb.2.1 m hm; exact ⟨this.1, by omega⟩), by have := hb.2.2; omega⟩ (by rw [hgd]; omega) (by omega)
          rw [rd_put, hgd, ← hFj, ← hFj] at p1
          generalize G[j] = g at *
          generalize hf1 : Fi j = f1 at *
          generalize hf2 : Fi (j + 1) = f2 at *
          simp only [go_sem, hej, hjl]
          (repeat (refine And.intro (by omega) ?_))
          refine call_xF 9 p1 (by decide) rfl (List.forall_mem_cons.2 ⟨xF_p, List.forall_mem_cons.2 ⟨inA_t2, List.forall_mem_cons.2 ⟨trivial, fun x hx => by cases hx⟩⟩⟩) (by simp only [go_sem] <;> rfl) ?_
          simp only [go_sem]
          refine ⟨j + 1, hjl', (by show G.length - (j + 1) < G.length - j; omega), ?_⟩
          (refine gstep_list rfl ?_ ?_ ?_ ?_ <;> (try simp only [go_sem, tail_one, hf2, wrap_i64 (n := (j : Int) + 1) (by omega) (by omega)]) <;> (try simp))
        · obtain rfl : j = G.length := by omega
          have hb := Bd_rdM hGk G.length (Nat.le_refl _) (by omega)
          have p2 := c_most (rdM G G.length, 0) (-cl) (N := G.length + 1) (L := 2000) (by omega) (by omega) (by decide) (WM_rdM G _) ⟨by have := hb.1; omega, (fun m hm => by have := hb.2.1 m hm; exact ⟨this.1, by omega⟩), by have := hb.2.2; omega⟩ (by rw [lN_neg]; omega)
          rw [rd_most, ← hFj] at p2
          generalize hf1 : Fi G.length = f1 at *
          simp only [go_sem]
          refine call_pure ck rfl ?_
          simp only [go_sem]
          refine call_pure cn rfl ?_
          simp only [go_sem]
          refine call_xF 9 p2 (by decide) rfl (List.forall_mem_cons.2 ⟨xF_p, List.forall_mem_cons.2 ⟨inA_t2, fun x hx => by cases hx⟩⟩) (by simp only [go_sem] <;> rfl) ?_
          simp only [go_sem]
          exact fz_tup2 (fz_agg3 .t .t .t) (.one .t)
end Go.Proofs.YtfgejnedaijjiaaGreat
namespace Go.Proofs.YtfgejnedaijjiaaGreat
open Go Go.Abs
set_option maxHeartbeats 8000000
/-! ### Functions handed over that caught a form in a box; slices of forms that are own -/
/-- The box, and an own slice of forms. -/
abbrev xFv (c : Fm) (out : List Fm) : Heap := upd (xF c) (PIN + 1) (some (cellsL cF out))
theorem cF_len (f : Fm) : (cF f).length = 3 := rfl
theorem xFv_low {c : Fm} {out : List Fm} (b : Nat) (h : b < PIN) : xFv c out b = none := by
  show (if b = PIN + 1 then _ else xF c b) = none
  rw [if_neg (by omega)]; exact xF_low b h
theorem xFv_cl {f : Fm} {out : List Fm} (b : Nat) (cs : List C) (h : xFv f out b = some cs) : ∀ c ∈ cs, inC (xFv f out) c := by
  have h : (if b = PIN + 1 then some (cellsL cF out) else xF f b) = some cs := h
  split at h
  · cases h
    intro c hc
    unfold cellsL at hc
    obtain ⟨t, _, rfl⟩ := List.mem_map.1 hc
    trivial
  · have h : (if b = PIN then some ((cF f).map .t) else none) = some cs := h
    split at h
    · cases h
      intro c hc
      obtain ⟨t, _, rfl⟩ := List.mem_map.1 hc
      trivial
    · cases h
theorem rd_xF {F : FuncId} {ys args : List AV} {f : Fm} {H : Heap} {r : AV} (d : Nat) (h : MCall Tryz.prog F args (xF f) r (xF f)) (has : ys = args.map (thA (fun _ => d)))
    (hargs : ∀ x ∈ args, inA (xF f) x) (hH : H d = some ((cF f).map .t)) : RdC Tryz.prog F ys H (thA (fun _ => d) r) := by
  subst has
  have hx : ∀ {f : Fm} {b : Nat}, xF f b ≠ none → b = PIN := fun {f b} h => by
    by_cases e : b = PIN
    · exact e
    · exact (h (show (if b = PIN then some ((cF f).map C.t) else none) = none from if_neg e)).elim
  have hs : ∀ {f : Fm} {b : Nat} {cs : List C}, xF f b = some cs → cs = (cF f).map .t := fun {f b cs} h => by
    have h : (if b = PIN then some ((cF f).map C.t) else none) = some cs := h
    split at h
    · cases h; rfl
    · cases h
  refine rd_ren (fun _ => d) h xF_low (fun b b' h h' _ => (hx h).trans (hx h').symm) xF_cl hargs fun b cs hb => ?_
  rw [hs hb]; exact hH
def th2 (d e k : Nat) : Nat := if k = 0 then d else e
theorem rd_xFv {F : FuncId} {ys args : List AV} {f : Fm} {out : List Fm} {H : Heap} {r : AV} (d e : Nat) (hde : d ≠ e) (h : MCall Tryz.prog F args (xFv f out) r (xFv f out)) (has : ys = args.map (thA (th2 d e)))
    (hargs : ∀ x ∈ args, inA (xFv f out) x) (hH : H d = some ((cF f).map .t)) (hH2 : H e = some (cellsL cF out)) : RdC Tryz.prog F ys H (thA (th2 d e) r) := by
  subst has
  have hx : ∀ {b : Nat}, xFv f out b ≠ none → b = PIN ∨ b = PIN + 1 := fun {b} h => by
    by_cases e1 : b = PIN + 1
    · exact .inr e1
    · by_cases e2 : b = PIN
      · exact .inl e2
      · refine (h ?_).elim
        show (if b = PIN + 1 then some (cellsL cF out) else if b = PIN then some ((cF f).map C.t) else none) = none
        rw [if_neg e1, if_neg e2]
  have t0 : thI (th2 d e) PIN = d := rfl
  have t1 : thI (th2 d e) (PIN + 1) = e := by show (if PIN + 1 - PIN = 0 then d else e) = e; rw [if_neg (by omega)]
  refine rd_ren (th2 d e) h xFv_low (fun b b' h h' hb => ?_) xFv_cl hargs fun b cs hb => ?_
  · rcases hx h with rfl | rfl <;> rcases hx h' with rfl | rfl
    · rfl
    · rw [t0, t1] at hb; exact (hde hb).elim
    · rw [t0, t1] at hb; exact (hde hb.symm).elim
    · rfl
  · rcases hx (fun e => by rw [e] at hb; cases hb) with rfl | rfl
    · rw [t0]
      have hb : (if PIN = PIN + 1 then some (cellsL cF out) else if PIN = PIN then some ((cF f).map C.t) else none) = some cs := hb
      rw [if_neg (by omega), if_pos rfl] at hb
      cases hb; exact hH
    · rw [t1]
      have hb : (if PIN + 1 = PIN + 1 then some (cellsL cF out) else xF f (PIN + 1)) = some cs := hb
      rw [if_pos rfl] at hb
      cases hb
      rw [hH2]; unfold cellsL; rw [List.map_map]; rfl
set_option maxRecDepth 100000 in
theorem c_Cuts1 (o c : Fm) {N L : Nat} (hN : N ≤ 1000000) (hL : L ≤ 900000) (wo : WF o) (wc : WF c) (ho : Bd N L o) (hc : Bd N L c) :
    MCall Tryz.prog 102 [.agg ((cF o).map .t), .one (.ptr PIN 0)] (xF c) (litB (decide (o = c))) (xF c) := by
  refine mcall_of_wpX mixed Tryz.call102 Tryz.func102 rfl Tryz.ntmps102 Tryz.results102 (by simp) (by decide) ?_ ?_ ?_ ?_ ?_
  · exact xF_low
  · exact fun b => xF_dom b
  · exact xF_cl
  · trivial
  · have o1 := l_Same_e o c hN hL wo wc ho hc
    simp only [go_sem, PIN]
    (repeat (refine And.intro (by omega) ?_))
    ((repeat (refine regA_by 0 rfl ?_; simp only [go_sem, PIN])); refine call_pure (o1) rfl ?_; simp only [go_sem, PIN]; (repeat (refine regA_by 0 rfl ?_; simp only [go_sem, PIN])))
    refine ⟨.inr rfl, (fun x hx => by obtain rfl := List.mem_singleton.1 hx; trivial), rfl, fun b hb => ?_⟩
    have hb : 1000000 ≤ b := hb
    show (if b = 2 then some _ else if b = 1000000 then some _ else none) = if b = 1000000 then some _ else none
    rw [if_neg (by omega)]
theorem findL {α : Type} (p : α → Bool) : ∀ x : List α, x.any p = true → ∃ k : Nat, ∃ hk : k < x.length, p x[k] = true ∧ ∀ q ∈ x.take k, p q = false
  | [], h => by cases h
  | u :: x, h => by
    cases c : p u with
    | true => exact ⟨0, Nat.zero_lt_succ _, c, fun q hq => by cases hq⟩
    | false =>
      rw [List.any_cons, c, Bool.false_or] at h
      obtain ⟨k, hk, h1, h2⟩ := findL p x h
      exact ⟨k + 1, Nat.succ_lt_succ hk, h1, fun q hq => by
        rcases List.mem_cons.1 hq with rfl | hq
        · exact c
        · exact h2 q hq⟩
theorem xFv_p {c : Fm} {out : List Fm} : inA (xFv c out) (.one (.vec (PIN + 1) 3 0 out.length)) := by
  show (if PIN + 1 = PIN + 1 then some _ else _) ≠ none
  rw [if_pos rfl]; simp
theorem xFv_f {c : Fm} {out : List Fm} {F : FuncId} : inA (xFv c out) (.one (.fn F [(PIN, 0)])) := by
  intro p hp
  obtain rfl := List.mem_singleton.1 hp
  show (if PIN = PIN + 1 then _ else if PIN = PIN then some _ else none) ≠ none
  rw [if_neg (by omega), if_pos rfl]; simp
set_option maxRecDepth 100000 in
theorem c_IndexLin (c : Fm) (out : List Fm) (F : FuncId) (p : Fm → Bool) (hx : out.length < 1000000000) (hp : ∀ o ∈ out, MCall Tryz.prog F [.agg ((cF o).map .t), .one (.ptr PIN 0)] (xF c) (litB (p o)) (xF c))
    (n : Int) (hn : (∃ k : Nat, ∃ hk : k < out.length, n = k ∧ p out[k] = true ∧ ∀ q ∈ out.take k, p q = false) ∨ (n = -1 ∧ ∀ q ∈ out, p q = false)) :
    MCall Tryz.prog 142 [.one (.vec (PIN + 1) 3 0 out.length), .one (.fn F [(PIN, 0)])] (xFv c out) (litI .i64 n) (xFv c out) := by
  refine mcall_of_wpX mixed Tryz.call142 Tryz.func142 rfl Tryz.ntmps142 Tryz.results142 (by simp) (by decide) ?_ ?_ ?_ ?_ ?_
  · exact xFv_low
  · exact fun b => Iff.rfl
  · exact xFv_cl
  · trivial
  · simp only [go_sem, PIN]
    refine loop_inv (fun i : Nat => stL 19 [(0, .one (.vec 1000001 3 0 out.length)), (1, .one (.fn F [(1000000, 0)])), (6, .one (.vec 1000001 3 0 out.length)), (7, litI .i64 out.length), (8, litI .i64 i)]
        [(1000000, (cF c).map .t), (1000001, cellsL cF out)])
        (fun i => i ≤ out.length ∧ ∀ q ∈ out.take i, p q = false) (fun i => out.length - i) 0 ?_ ⟨Nat.zero_le _, by rw [List.take_zero]; intro q hq; cases hq⟩ ?_
    · (refine gstep_list rfl ?_ ?_ ?_ ?_ <;> (try simp only [go_sem, tail_one, cellsL_refs, PIN]) <;> (try simp))
    · rintro i ⟨hi, hinv⟩
      simp only [go_sem]
      refine CondR_if (fun hlt => ?_) (fun hge => ?_)
      · have hlt' : i < out.length := by omega
        have hel : (cellsL cF out).drop (i * 3) = (cF out[i]).map .t ++ cellsL cF (out.drop (i + 1)) := cellsL_at cF_len hlt'
        have hcl : (cellsL cF out).length = out.length * 3 := cellsL_length cF_len
        have h := hp _ (List.getElem_mem hlt')
        have hnx : p out[i] = false → ∀ q ∈ out.take (i + 1), p q = false := fun h q hq => by
          rw [take_snoc hlt'] at hq
          rcases List.mem_append.1 hq with hq | hq
          · exact hinv q hq
          · obtain rfl := List.mem_singleton.1 hq; exact h
        have hyes : p out[i] = true → n = i := fun h => by
          rcases hn with ⟨k, hk, rfl, h1, h2⟩ | ⟨_, h2⟩
          · rcases Nat.lt_trichotomy k i with c | c | c
            · have : out[k] ∈ out.take i := List.mem_iff_getElem.2 ⟨k, by simp; omega, by simp⟩
              rw [hinv _ this] at h1; cases h1
            · rw [c]
            · have : out[i] ∈ out.take k := List.mem_iff_getElem.2 ⟨i, by simp; omega, by simp⟩
              rw [h2 _ this] at h; cases h
          · rw [h2 _ (List.getElem_mem hlt')] at h; cases h
        generalize out[i] = u at *
        simp only [go_sem, hel, hlt]
        (repeat (refine And.intro (by omega) ?_))
        have rd : ∀ {H : Heap}, H 1000000 = some ((cF c).map .t) → RdC Tryz.prog F [.agg ((cF u).map .t), .one (.ptr 1000000 0)] H (litB (p u)) := fun {H} hH =>
          rd_xF 1000000 h rfl (List.forall_mem_cons.2 ⟨(fun c hc => by obtain ⟨t, _, rfl⟩ := List.mem_map.1 hc; trivial), List.forall_mem_cons.2 ⟨xF_p, fun x hx => by cases hx⟩⟩) hH
        refine call_rd2 (.inr rfl) (rd (by simp only [go_sem] <;> rfl)) ?_
        cases c1 : p u with
        | true =>
          rw [hyes c1]
          simp only [go_sem]
          refine ⟨.inr rfl, (fun x hx => by obtain rfl := List.mem_singleton.1 hx; trivial), rfl, fun b hb => ?_⟩
          have hb : 1000000 ≤ b := hb
          show (if b = 1000000 then some _ else if b = 1000001 then some _ else none) = if b = 1000000 + 1 then some _ else if b = 1000000 then some _ else none
          by_cases e1 : b = 1000000
          · rw [if_pos e1, if_neg (by omega), if_pos e1]; rfl
          · rw [if_neg e1, if_neg e1]
        | false =>
          simp only [go_sem]
          refine ⟨i + 1, ⟨hlt', hnx c1⟩, (by show out.length - (i + 1) < out.length - i; omega), ?_⟩
          (refine gstep_list rfl ?_ ?_ ?_ ?_ <;> (try simp only [go_sem, tail_one, cellsL_refs, wrap_i64 (n := (i : Int) + 1) (by omega) (by omega)]) <;> (try simp))
      · obtain rfl : i = out.length := by omega
        rw [List.take_length] at hinv
        have e : n = -1 := by
          rcases hn with ⟨k, hk, _, h1, _⟩ | ⟨h, _⟩
          · rw [hinv _ (List.getElem_mem hk)] at h1; cases h1
          · exact h
        rw [e]
        simp only [go_sem]
        refine ⟨.inr rfl, (fun x hx => by obtain rfl := List.mem_singleton.1 hx; trivial), rfl, fun b hb => ?_⟩
        have hb : 1000000 ≤ b := hb
        show (if b = 1000000 then some _ else if b = 1000001 then some _ else none) = if b = 1000000 + 1 then some _ else if b = 1000000 then some _ else none
        by_cases e1 : b = 1000000
        · rw [if_pos e1, if_neg (by omega), if_pos e1]; rfl
        · rw [if_neg e1, if_neg e1]
set_option maxRecDepth 100000 in
theorem c_ContainsLin (c : Fm) (out : List Fm) (F : FuncId) (p : Fm → Bool) (hx : out.length < 1000000000) (hp : ∀ o ∈ out, MCall Tryz.prog F [.agg ((cF o).map .t), .one (.ptr PIN 0)] (xF c) (litB (p o)) (xF c)) :
    MCall Tryz.prog 101 [.one (.vec (PIN + 1) 3 0 out.length), .one (.fn F [(PIN, 0)])] (xFv c out) (litB (out.any p)) (xFv c out) := by
  refine mcall_of_wpX mixed Tryz.call101 Tryz.func101 rfl Tryz.ntmps101 Tryz.results101 (by simp) (by decide) ?_ ?_ ?_ ?_ ?_
  · exact xFv_low
  · exact fun b => Iff.rfl
  · exact xFv_cl
  · trivial
  · have hcall : ∀ (n : Int), ((∃ k : Nat, ∃ hk : k < out.length, n = k ∧ p out[k] = true ∧ ∀ q ∈ out.take k, p q = false) ∨ (n = -1 ∧ ∀ q ∈ out, p q = false)) → ∀ {H : Heap}, H 1000000 = some ((cF c).map .t) → H 1000001 = some (cellsL cF out) →
        RdC Tryz.prog 142 [.one (.vec 1000001 3 0 out.length), .one (.fn F [(1000000, 0)])] H (litI .i64 n) := fun n hn H h1 h2 =>
      rd_xFv 1000000 1000001 (by decide) (c_IndexLin c out F p hx hp n hn) rfl (List.forall_mem_cons.2 ⟨xFv_p, List.forall_mem_cons.2 ⟨xFv_f, fun x hx => by cases hx⟩⟩) h1 h2
    cases c1 : out.any p with
    | true =>
      obtain ⟨k, hk, h1, h2⟩ := findL p out c1
      simp only [go_sem, PIN]
      refine call_rd2 (.inr rfl) (hcall k (.inl ⟨k, hk, rfl, h1, h2⟩) (by simp only [go_sem, PIN] <;> rfl) (by simp only [go_sem, PIN] <;> rfl)) ?_
      have hk0 : ((0 : Int) ≤ (k : Int)) = True := eq_true (by omega)
      simp only [go_sem, hk0]
      exact ⟨.inr rfl, (fun x hx => by obtain rfl := List.mem_singleton.1 hx; trivial), rfl, fun b hb => rfl⟩
    | false =>
      simp only [go_sem, PIN]
      refine call_rd2 (.inr rfl) (hcall (-1) (.inr ⟨rfl, fun q hq => by
        cases e : p q with
        | false => rfl
        | true => rw [List.any_eq_true.2 ⟨q, hq, e⟩] at c1; cases c1⟩) (by simp only [go_sem, PIN] <;> rfl) (by simp only [go_sem, PIN] <;> rfl)) ?_
      simp only [go_sem]
      exact ⟨.inr rfl, (fun x hx => by obtain rfl := List.mem_singleton.1 hx; trivial), rfl, fun b hb => rfl⟩
/-- Of a nil slice. -/
theorem xF_f {c : Fm} {F : FuncId} : inA (xF c) (.one (.fn F [(PIN, 0)])) := by
  intro p hp
  obtain rfl := List.mem_singleton.1 hp
  show (if PIN = PIN then some _ else none) ≠ none
  simp
set_option maxRecDepth 100000 in
theorem c_IndexLin0 (c : Fm) (F : FuncId) : MCall Tryz.prog 142 [.one (.t (.seq (some true) [])), .one (.fn F [(PIN, 0)])] (xF c) (litI .i64 (-1)) (xF c) := by
  refine mcall_of_wpX mixed Tryz.call142 Tryz.func142 rfl Tryz.ntmps142 Tryz.results142 (by simp) (by decide) ?_ ?_ ?_ ?_ ?_
  · exact xF_low
  · exact fun b => Iff.rfl
  · exact xF_cl
  · trivial
  · simp only [go_sem, PIN]
    refine ⟨1, _, GStep.refl _, ?_⟩
    simp only [go_sem, PIN]
    exact ⟨.inr rfl, (fun x hx => by obtain rfl := List.mem_singleton.1 hx; trivial), rfl, fun b hb => rfl⟩
set_option maxRecDepth 100000 in
theorem c_ContainsLin0 (c : Fm) (F : FuncId) : MCall Tryz.prog 101 [.one (.t (.seq (some true) [])), .one (.fn F [(PIN, 0)])] (xF c) (litB false) (xF c) := by
  refine mcall_of_wpX mixed Tryz.call101 Tryz.func101 rfl Tryz.ntmps101 Tryz.results101 (by simp) (by decide) ?_ ?_ ?_ ?_ ?_
  · exact xF_low
  · exact fun b => Iff.rfl
  · exact xF_cl
  · trivial
  · have rd : ∀ {H : Heap}, H 1000000 = some ((cF c).map .t) → RdC Tryz.prog 142 [.one (.t (.seq (some true) [])), .one (.fn F [(1000000, 0)])] H (litI .i64 (-1)) := fun {H} hH =>
      rd_xF 1000000 (c_IndexLin0 c F) rfl (List.forall_mem_cons.2 ⟨trivial, List.forall_mem_cons.2 ⟨xF_f, fun x hx => by cases hx⟩⟩) hH
    simp only [go_sem, PIN]
    refine call_rd2 (.inr rfl) (rd (by simp only [go_sem, PIN] <;> rfl)) ?_
    simp only [go_sem]
    exact ⟨.inr rfl, (fun x hx => by obtain rfl := List.mem_singleton.1 hx; trivial), rfl, fun b hb => rfl⟩
end Go.Proofs.YtfgejnedaijjiaaGreat
namespace Go.Proofs.YtfgejnedaijjiaaGreat
open Go Go.Abs
set_option maxHeartbeats 16000000
/-! ### cut.Cuts -/
theorem numPos {v : Rat} : 0 < v ↔ 0 < v.num := by
  have h1 : 0 ≤ (-v).num ↔ 0 ≤ -v := Rat.num_nonneg
  rw [Rat.neg_num] at h1
  have h2 : 0 < v ↔ ¬ 0 ≤ -v := by
    constructor
    · intro h; grind
    · intro h; grind
  rw [h2, ← h1]; omega
def cutsF (p : Nat → Rat) (out : List Fm) (f : Fm) : List Fm := if clF f = 1 ∧ ¬ out.any (fun o => decide (o = normF f)) = true ∧ 0 < atQ (normF f) p then out ++ [normF f] else out
def cutsL (p : Nat → Rat) (ls : List Fm) : List Fm := ls.foldl (cutsF p) []
theorem cutsL_snoc (p : Nat → Rat) (ls : List Fm) (f : Fm) : cutsL p (ls ++ [f]) = cutsF p (cutsL p ls) f := by unfold cutsL; rw [List.foldl_append]; rfl
theorem cutsF_len (p : Nat → Rat) (out : List Fm) (f : Fm) : (cutsF p out f).length ≤ out.length + 1 := by
  unfold cutsF; split
  · rw [List.length_append]; simp
  · omega
theorem cutsL_len (p : Nat → Rat) (ls : List Fm) : ∀ i, (cutsL p (ls.take i)).length ≤ i := by
  intro i
  induction i with
  | zero => rw [List.take_zero]; exact Nat.le_refl _
  | succ i ih =>
    by_cases h : i < ls.length
    · rw [take_snoc h, cutsL_snoc]
      have := cutsF_len p (cutsL p (ls.take i)) ls[i]; omega
    · rw [List.take_of_length_le (by omega)] at ih ⊢; omega
theorem cutsL_mem {p : Nat → Rat} {ls : List Fm} : ∀ i, ∀ o ∈ cutsL p (ls.take i), ∃ f ∈ ls, o = normF f := by
  intro i
  induction i with
  | zero => rw [List.take_zero]; intro o ho; cases ho
  | succ i ih =>
    by_cases h : i < ls.length
    · rw [take_snoc h, cutsL_snoc]
      intro o ho
      unfold cutsF at ho; split at ho
      · rcases List.mem_append.1 ho with ho | ho
        · exact ih o ho
        · obtain rfl := List.mem_singleton.1 ho; exact ⟨_, List.getElem_mem h, rfl⟩
      · exact ih o ho
    · rw [List.take_of_length_le (by omega)] at ih ⊢; exact ih
theorem c_contains (c : Fm) (out : List Fm) {N L : Nat} (hN : N ≤ 1000000) (hL : L ≤ 900000) (hx : out.length < 1000000000) (wc : WF c) (hc : Bd N L c) (ho : ∀ o ∈ out, WF o ∧ Bd N L o) {H : Heap} (h1 : H 8 = some ((cF c).map .t)) (h2 : out = [] ∨ H 1000 = some (cellsL cF out)) :
    RdC Tryz.prog 101 [.one (accC 1000 3 out), .one (.fn 102 [(8, 0)])] H (litB (out.any fun o => decide (o = c))) := by
  cases out with
  | nil => exact rd_xF 8 (c_ContainsLin0 c 102) rfl (List.forall_mem_cons.2 ⟨trivial, List.forall_mem_cons.2 ⟨xF_f, fun x hx => by cases hx⟩⟩) h1
  | cons z zs =>
    rcases h2 with h2 | h2
    · cases h2
    · exact rd_xFv 8 1000 (by decide) (c_ContainsLin c (z :: zs) 102 (fun o => decide (o = c)) hx fun o hoo => c_Cuts1 o c hN hL (ho o hoo).1 wc (ho o hoo).2 hc) rfl (List.forall_mem_cons.2 ⟨xFv_p, List.forall_mem_cons.2 ⟨xFv_f, fun x hx => by cases hx⟩⟩) h1 h2
set_option maxRecDepth 100000 in
theorem c_Cuts (a : List LL) (x : List QQ) {N L K : Nat} (hA : a.length < 1000000) (hx : x.length < 1000000) (hN : N ≤ 100) (hL1 : 1 ≤ L) (hL : L ≤ 9) (hK : K ≤ 20) (hK1 : 1 ≤ K) (ha : ∀ l ∈ a, BL N L l) (hxk : ∀ q ∈ x, q.2.1.length ≤ K ∧ q.2.2.length ≤ K) :
    PCall Tryz.prog 44 [.one (eL cL a), tLQ x] (.one (eL cF (cutsL (ptQ x) (a.map lv)))) := by
  refine pcall_of_wpA mixed Tryz.call44 Tryz.func44 rfl Tryz.ntmps44 Tryz.results44 (by simp) (by decide) ?_
  simp only [go_sem]
  refine loop_inv (fun i : Nat => stL 45 [(1, aLQ x), (5, .one (accC 1000 3 (cutsL (ptQ x) ((a.map lv).take i)))), (11, .one (.t (eL cL a))), (12, litI .i64 a.length), (13, litI .i64 i)]
      (accE 1000 cF (cutsL (ptQ x) ((a.map lv).take i)) ++ [])) (fun i => i ≤ a.length) (fun i => a.length - i) 0 ?_ (Nat.zero_le _) ?_
  · rw [List.take_zero, show cutsL (ptQ x) [] = [] from rfl]
    (refine gstep_list rfl ?_ ?_ ?_ ?_ <;> (try simp only [go_sem, tail_one]) <;> (try simp))
  · intro i hi
    simp only [go_sem]
    refine CondR_if (fun hlt => ?_) (fun hge => ?_)
    · have hlt' : i < a.length := by omega
      have hel : elemD cL a i = cL a[i] := elemD_lt hlt'
      have hb := Bd_lv (ha _ (List.getElem_mem hlt'))
      have hn := b_Norm a[i] (by omega) (by omega) (ha _ (List.getElem_mem hlt'))
      have hw := WF_norm (WF_lv a[i])
      have hbn := Bd_norm hb
      have hout : ∀ o ∈ cutsL (ptQ x) ((a.map lv).take i), WF o ∧ Bd N (L + 1) o := fun o ho => by
        obtain ⟨f, hf, rfl⟩ := cutsL_mem i o ho
        obtain ⟨l, hl, rfl⟩ := List.mem_map.1 hf
        exact ⟨WF_norm (WF_lv l), Bd_norm (Bd_lv (ha l hl))⟩
      have hol := cutsL_len (ptQ x) (a.map lv) i
      have hnx : cutsL (ptQ x) ((a.map lv).take (i + 1)) = cutsF (ptQ x) (cutsL (ptQ x) ((a.map lv).take i)) (lv a[i]) := by
        rw [take_snoc (by rw [List.length_map]; exact hlt'), cutsL_snoc, List.getElem_map]
      have hat := s_At (encL (normF (lv a[i]))) x (N := N) (L := L + 1) (K := K) hN (by omega) (by omega) hK hK1 (BL_enc hbn) (by omega) hxk
      rw [gL_encL, lv_enc hw] at hat
      have lat : lQ (atQ (normF (lv a[i])) (ptQ x)) ≤ 4000 := by
        have := lQ_atQ (L := L + 1) (by omega) hbn (fun v => lQ_ptQ hK1 hxk v) N
        rw [List.take_of_length_le hbn.1] at this
        have h2 : N * (L + 1 + K + 1) ≤ 100 * 31 := Nat.mul_le_mul (by omega) (by omega)
        unfold atQ; omega
      have hcl : clF (lv a[i]) = 1 ∨ ¬ clF (lv a[i]) = 1 := Classical.em _
      unfold cutsF at hnx
      generalize a[i] = l at *
      generalize lv l = f at *
      generalize cutsL (ptQ x) ((a.map lv).take i) = out at *
      generalize atQ (normF f) (ptQ x) = v at *
      have hcs := fun {H : Heap} => c_contains (normF f) out (N := N) (L := L + 1) (by omega) (by omega) (by omega) hw hbn hout (H := H)
      generalize hnf : normF f = c at *
      generalize clF f = cl at *
      have hsg := w_Sign_e v.num (by have := lQ_num v; omega)
      simp only [go_sem, hel, hlt]
      (repeat (refine And.intro (by omega) ?_))
      refine call_pure hn rfl ?_
      simp only [go_sem]
      (repeat (refine And.intro (by omega) ?_))
      refine call_rd2 (.inr rfl) (hcs (by simp only [go_sem] <;> rfl) (by simp only [go_sem])) ?_
      clear hcs
      generalize htw : (out.any fun o => decide (o = c)) = tw at *
      have hskip : (¬ (cl = 1 ∧ ¬ tw = true ∧ 0 < v)) → cutsL (ptQ x) ((a.map lv).take (i + 1)) = out := fun h => by rw [hnx, if_neg h]
      by_cases h1 : cl = 1
      · have h1' : (cl = 1) = True := eq_true h1
        cases tw with
        | true =>
          have hnx := hskip (fun h => h.2.1 rfl)
          simp only [go_sem, h1']
          refine ⟨i + 1, hlt', (by show a.length - (i + 1) < a.length - i; omega), ?_⟩
          (refine gstep_list rfl ?_ ?_ ?_ ?_ <;> (try simp only [go_sem, tail_one, hnx, wrap_i64 (n := (i : Int) + 1) (by omega) (by omega)]) <;> (try simp))
        | false =>
          simp only [go_sem, h1']
          refine call_pure hat rfl ?_
          simp only [go_sem]
          refine call_pure hsg rfl ?_
          have hvs : 0 < v ↔ 0 < v.num.sign := by rw [Int.sign_pos_iff, numPos]
          by_cases hs : 0 < v
          · have hs' : (0 < v.num.sign) = True := eq_true (hvs.1 hs)
            rw [if_pos ⟨h1, by simp, hs⟩] at hnx
            simp only [go_sem, hs']
            refine opA_app_acc (sz := 3) (bytes := 56) (by simp only [go_sem, AppTy] <;> decide) cF_len out [c] (b := 1000) (by simp only [go_sem] <;> rfl) (by simp only [go_sem] <;> rfl) (by simp only [go_sem] <;> rfl) rfl (by simp) (by simp only [List.length_cons, List.length_nil] at *; omega) (by decide) ?_
            simp only [go_sem]
            refine ⟨i + 1, hlt', (by show a.length - (i + 1) < a.length - i; omega), ?_⟩
            (refine gstep_list rfl ?_ ?_ ?_ ?_ <;> (try simp only [go_sem, tail_one, hnx, wrap_i64 (n := (i : Int) + 1) (by omega) (by omega)]) <;> (try simp))
          · have hs' : (0 < v.num.sign) = False := eq_false (fun h => hs (hvs.2 h))
            have hnx := hskip (fun h => hs h.2.2)
            simp only [go_sem, hs']
            refine ⟨i + 1, hlt', (by show a.length - (i + 1) < a.length - i; omega), ?_⟩
            (refine gstep_list rfl ?_ ?_ ?_ ?_ <;> (try simp only [go_sem, tail_one, hnx, wrap_i64 (n := (i : Int) + 1) (by omega) (by omega)]) <;> (try simp))
      · have h1' : (cl = 1) = False := eq_false h1
        have hnx := hskip (fun h => h1 h.1)
        simp only [go_sem, h1']
        refine ⟨i + 1, hlt', (by show a.length - (i + 1) < a.length - i; omega), ?_⟩
        (refine gstep_list rfl ?_ ?_ ?_ ?_ <;> (try simp only [go_sem, tail_one, hnx, wrap_i64 (n := (i : Int) + 1) (by omega) (by omega)]) <;> (try simp))
    · obtain rfl : i = a.length := by omega
      rw [List.take_of_length_le (by rw [List.length_map]; exact Nat.le_refl _)]
      generalize cutsL (ptQ x) (a.map lv) = out at *
      simp only [go_sem]
      exact fz_accA cF_len (by simp only [go_sem])
end Go.Proofs.YtfgejnedaijjiaaGreat
