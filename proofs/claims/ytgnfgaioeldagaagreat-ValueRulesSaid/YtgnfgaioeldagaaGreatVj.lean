/- At every input the call answers true and leaves its arguments as they were; no conditions. -/
import Derived.Test.YtgnfgaioeldagaaGreatVh
import Derived.Test.YtgnfgaioeldagaaGreatMl
import Derived.Test.YtgnfgaioeldagaaGreatVk
set_option linter.unusedSimpArgs false
set_option linter.unusedVariables false
namespace Go.Proofs.YtgnfgaioeldagaaGreat
open Go Go.Abs
set_option maxHeartbeats 16000000
/-! ### Terms that are made -/
abbrev mkT (op : Int) (l : List Tm) : Tm := .mk op zzI { data := #[] } (sortR op l) l
set_option maxRecDepth 100000 in
theorem r_Make (op : Int) (l : List Tm) (h1 : 5 ≤ op) (h2 : op ≤ 22) (hk : kidsB op l.length = true) (hc : chkE op l = 0) (hl : l.length < 1000000) (hF : ∀ t ∈ l, FT t) (hK : ∀ t ∈ l, KT t) (hT : ∀ t ∈ l, isT t = true) : PCall Tryz.prog 67 [tI .i64 op, tLT l] (.tup [gT (mkT op l), tI .i64 0]) := by
  refine pcall_of_wpA mixed Tryz.call67 Tryz.func67 rfl Tryz.ntmps67 Tryz.results67 (by simp) (by decide) ?_
  have f1 : decide (op < 5) = false := decide_eq_false (by omega)
  have f2 : decide (22 < op) = false := decide_eq_false (by omega)
  have ha := r_args op l.length
  rw [hk] at ha
  have hs : smallK l := fun k hk => by
    obtain ⟨q1, q2, q3⟩ := (FT_eq k).1 (hF k hk)
    exact ⟨by omega, fun c hc => by have := ((FT_eq c).1 (q3 c hc)).1; omega⟩
  have hch := r_check op l (by omega) hs hK hk
  rw [hc] at hch
  have hr := r_result op l h1 h2 hk
  simp only [go_sem, f1, f2]
  refine call_pure ha rfl ?_
  simp only [go_sem]
  refine loop_inv (fun i : Nat => stL 47 [(0, litI .i64 op), (1, .one (.t (eL cT l))), (4, .one (.ptr 4 0)), (6, litI .i64 i)] [(4, [.t (.lit (.int .i64 0)), .t (.lit (.bool false)), .t (.seq (some true) []), .t (.lit (.string { data := #[] })), .t (.lit (.int .i64 0)), .t (.seq (some true) [])])]) (fun i => i ≤ l.length) (fun i => l.length - i) 0 ?_ (Nat.zero_le _) ?_
  · (refine gstep_list rfl ?_ ?_ ?_ ?_ <;> (try simp only [go_sem, tail_one]) <;> (try simp))
  · intro i hi
    simp only [go_sem]
    refine CondR_if (fun hlt => ?_) (fun hge => ?_)
    · have hlt' : i < l.length := by omega
      have hel : elemD cT l i = cT l[i] := elemD_lt hlt'
      have h3 := r_Is l[i] (hF _ (List.getElem_mem hlt')) (hK _ (List.getElem_mem hlt'))
      rw [hT _ (List.getElem_mem hlt')] at h3
      have ilt : ((i : Int) < (l.length : Int)) = True := eq_true (by omega)
      generalize l[i] = t at *
      rw [show gT t = TV.agg (cT t) from rfl, cT_eq] at h3
      simp only [go_sem, hel, cT_eq, ilt]
      (repeat (refine And.intro (by omega) ?_))
      refine call_pure h3 rfl ?_
      simp only [go_sem]
      refine ⟨i + 1, hlt', (by show l.length - (i + 1) < l.length - i; omega), ?_⟩
      (refine gstep_list rfl ?_ ?_ ?_ ?_ <;> (try simp only [go_sem, tail_one, wrap_i64 (n := (i : Int) + 1) (by omega) (by omega)]) <;> (try simp))
    · obtain rfl : i = l.length := by omega
      simp only [go_sem]
      refine call_pure hch rfl ?_
      simp only [go_sem]
      refine call_pure hr rfl ?_
      rw [show gT (mkT op l) = TV.agg [.lit (.int .i64 op), .lit (.bool false), eN [], .lit (.string { data := #[] }), .lit (.int .i64 (sortR op l)), eL cT l] from congrArg TV.agg (cT_eq _)]
      simp only [go_sem]
      exact fz_tup2 (fz_Cs (.cons .t (.cons .t (.cons .weak (.cons .t (.cons .t (.cons .t .nil))))))) (.one .t)
set_option maxRecDepth 100000 in
theorem yes12 (hS : SmallSpec) (hI : IdxSpec) (t : Tm) (m : List Fu) (hF : FT t) (hK : KT t) (hn : t.nodes < 100000) (hm : limM m) (h4 : val4 m) : PCall Tryz.prog 26 [gT t, tLF m] (tB (decide ((evalM t m).1 = 1) && yesV (evalM t m))) := by
  refine pcall_of_wpA mixed Tryz.call26 Tryz.func26 rfl Tryz.ntmps26 Tryz.results26 (by simp) (by decide) ?_
  have h1 := v_Eval hS hI t m hF hK hn hm h4
  rw [show gT t = TV.agg (cT t) from rfl, cT_eq] at h1
  have hl : limV (evalM t m) := evalM_lim h4 hF hn
  have h2 := i_Sign (evalM t m).2.1 (evalM t m).2.2 (by unfold limV at hl; omega)
  have e : yesV (evalM t m) = !(decide ((zv (evalM t m).2).sign = 0)) := by
    unfold yesV
    by_cases h : zv (evalM t m).2 = 0
    · rw [h]; rfl
    · rw [decide_eq_true h, decide_eq_false (fun h2 => h (Int.sign_eq_zero_iff_zero.1 h2))]; rfl
  rw [e]
  have h2 : PCall Tryz.prog 35 [gI (evalM t m).2.1 (evalM t m).2.2] (tI .i64 (zv (evalM t m).2).sign) := h2
  clear e hl
  generalize (zv (evalM t m).2).sign = s at *
  generalize evalM t m = v at *
  simp only [go_sem, cT_eq]
  refine call_pure h1 rfl ?_
  cases c : decide (v.1 = 1) with
  | false => simp only [go_sem, c]
  | true =>
    simp only [go_sem, c]
    refine call_pure h2 rfl ?_
    simp only [go_sem, dne]
theorem tw_l2 {a b : Tm} : TVW (.one (.seq (some false) [cT a, cT b])) (tLT [a, b]) := .one .weak
theorem mkT_eq (op : Int) (l : List Tm) : gT (mkT op l) = TV.agg [.lit (.int .i64 op), .lit (.bool false), eN [], .lit (.string { data := #[] }), .lit (.int .i64 (sortR op l)), eL cT l] := congrArg TV.agg (cT_eq _)
set_option maxRecDepth 100000 in
theorem made1 (op : Int) (a : Tm) (h1 : 5 ≤ op) (h2 : op ≤ 22) (hk : kidsB op 1 = true) (hc : chkE op [a] = 0) (hF : FT a) (hK : KT a) (hT : isT a = true) : PCall Tryz.prog 27 [tI .i64 op, gT a, .one (.lit (.pointer none))] (gT (mkT op [a])) := by
  have hm := (r_Make op [a] h1 h2 hk hc (by show 1 < 1000000; decide) (fun t ht => by obtain rfl := List.mem_singleton.1 ht; exact hF) (fun t ht => by obtain rfl := List.mem_singleton.1 ht; exact hK) (fun t ht => by obtain rfl := List.mem_singleton.1 ht; exact hT)).tw (tvs' := [tI .i64 op, .one (.seq (some false) [cT a])]) (.cons .refl1 (.cons (.one .weak) .nil))
  rw [mkT_eq] at hm ⊢
  rw [cT_eq] at hm
  have p1 : isPtrD (tdesc Tryz.prog 49) = true := by kernel_rfl
  have p2 : tok Tryz.prog 49 = true := by kernel_rfl
  refine pcall_of_wpA mixed Tryz.call27 Tryz.func27 rfl Tryz.ntmps27 Tryz.results27 (by simp) (by decide) ?_
  simp only [go_sem, cT_eq, p1, p2]
  refine call_pure hm rfl ?_
  simp only [go_sem]
  exact fz_Cs (.cons .t (.cons .t (.cons .t (.cons .t (.cons .t (.cons .t .nil))))))
set_option maxRecDepth 100000 in
theorem made2 (op : Int) (a b : Tm) (h1 : 5 ≤ op) (h2 : op ≤ 22) (hk : kidsB op 2 = true) (hc : chkE op [a, b] = 0) (hF : FT a) (hK : KT a) (hT : isT a = true) (hF2 : FT b) (hK2 : KT b) (hT2 : isT b = true) : PCall Tryz.prog 27 [tI .i64 op, gT a, .ip (cT b)] (gT (mkT op [a, b])) := by
  have two : ∀ {p : Tm → Prop}, p a → p b → ∀ t ∈ [a, b], p t := fun ha hb t ht => by
    rcases List.mem_cons.1 ht with rfl | ht
    · exact ha
    · obtain rfl := List.mem_singleton.1 ht; exact hb
  have hm := r_Make op [a, b] h1 h2 hk hc (by show 2 < 1000000; decide) (two hF hF2) (two hK hK2) (two hT hT2)
  rw [mkT_eq] at hm ⊢
  have p1 : isPtrD (tdesc Tryz.prog 49) = true := by kernel_rfl
  have p2 : tok Tryz.prog 49 = true := by kernel_rfl
  refine pcall_of_wpY 1 mixed Tryz.call27 Tryz.func27 rfl Tryz.ntmps27 Tryz.results27 (by simp) (by decide) ?_
  simp only [go_sem, cT_eq, p1, p2]
  refine runX_step (by simp only [go_sem]) ?_
  simp only [go_sem]
  refine runX_op (by simp only [go_sem]) ?_
  refine opA_build 11 6 [.t (.lit (.int .i64 0)), .t (.lit (.bool false)), .t (.seq (some true) []), .t (.lit (.string { data := #[] })), .t (.lit (.int .i64 0)), .t (.seq (some true) [])] (cs := cellsL cT [a]) rfl (Nat.le_refl _) (by simp only [go_sem] <;> decide) (by unfold cellsL; simp only [List.map_cons, List.map_nil, List.flatten_cons, List.flatten_nil, cT_eq]; simp only [go_sem] <;> rfl) (by simp only [go_sem]) (by decide) ?_
  simp only [go_sem]
  refine runX_step (by simp only [go_sem]) ?_
  simp only [go_sem]
  refine runX_nil ?_
  simp only [go_sem, cT_eq, p1, p2]
  refine opA_app_vec (Nat.le_refl _) (sz := 6) (bytes := 88) (by simp only [go_sem, AppTy] <;> decide) cT_len [a] [b] (b := 11) (by simp only [go_sem] <;> rfl) rfl (by simp only [go_sem] <;> rfl) (by simp only [go_sem] <;> rfl) (by simp [cT_eq]) (by simp) (by decide) ?_
  simp only [go_sem]
  refine call_frz 11 6 2 (x := eL cT [a, b]) (cs := cellsL cT [a, b]) rfl hm (by simp only [go_sem] <;> rfl) (treeOf_L cT_len) (by simp only [go_sem] <;> rfl) ?_
  simp only [go_sem]
  exact fz_Cs (.cons .t (.cons .t (.cons .t (.cons .t (.cons .t (.cons .t .nil))))))
end Go.Proofs.YtgnfgaioeldagaaGreat
namespace Go.Proofs.YtgnfgaioeldagaaGreat
open Go Go.Abs
set_option maxHeartbeats 16000000
/-! ### What terms that are made are worth -/
theorem ofV_iff {v : VR} {s : Int} : ofV v s = true ↔ v.1 = s ∧ sortB s = true ∧ IsZ v.2 ∧ (s = 2 ∨ zv v.2 = 0 ∨ zv v.2 = 1) := by
  unfold ofV
  simp only [Bool.and_eq_true, Bool.or_eq_true, decide_eq_true_eq]
  constructor
  · rintro ⟨⟨⟨h1, h2⟩, h3⟩, (h4 | h4) | h4⟩
    · exact ⟨h1, h2, h3, .inl h4⟩
    · exact ⟨h1, h2, h3, .inr (.inl h4)⟩
    · exact ⟨h1, h2, h3, .inr (.inr h4)⟩
  · rintro ⟨h1, h2, h3, h4 | h4 | h4⟩
    · exact ⟨⟨⟨h1, h2⟩, h3⟩, .inl (.inl h4)⟩
    · exact ⟨⟨⟨h1, h2⟩, h3⟩, .inl (.inr h4)⟩
    · exact ⟨⟨⟨h1, h2⟩, h3⟩, .inr h4⟩
theorem zv_zz : zv zzI = 0 := by decide
theorem isZ_zz : IsZ zzI := by decide
theorem ofV_bool (b : Bool) : ofV (boolV b) 1 = true := by
  refine ofV_iff.2 ⟨boolV_sort b, by decide, ?_, ?_⟩
  · cases b
    · exact isZ_zz
    · exact IsZ_enc 1
  · cases b
    · exact .inr (.inl zv_zz)
    · exact .inr (.inr (zv_enc 1))
theorem ofV_enc (z : Int) : ofV (2, encZ z) 2 = true := ofV_int z
theorem rowF_of {l : List VR} {e : VR} {s : Int} (he : ofV e s = true) : ∀ {rs : List Rw}, (∀ r ∈ rs, ofV r.2 s = true) → ofV (rowF l e rs) s = true
  | [], _ => he
  | r :: rs, h => by
    unfold rowF
    split
    · exact h r (List.mem_cons_self ..)
    · exact rowF_of he fun r hr => h r (List.mem_cons_of_mem _ hr)
theorem appF_of {s : Sg} {l : List VR} (hs : sortB s.2.2 = true) : ∀ {m : List Fu}, m.all funB = true → ofV (appF s l m) s.2.2 = true
  | [], _ => ofV_iff.2 ⟨rfl, hs, isZ_zz, .inr (.inl zv_zz)⟩
  | f :: m, h => by
    rw [List.all_cons, Bool.and_eq_true] at h
    unfold appF
    split
    · rename_i e
      have hf := h.1
      unfold funB at hf
      rw [Bool.and_eq_true, Bool.and_eq_true] at hf
      rw [← e]
      refine rowF_of hf.1.2 fun r hr => ?_
      have := List.all_eq_true.1 hf.2 r hr
      unfold rowB at this
      rw [Bool.and_eq_true] at this
      exact this.2
    · exact appF_of hs h.2
theorem atV_map {m : List Fu} {l : List Tm} {i : Nat} (h : i < l.length) : atV (l.map (evalT m)) i = evalT m l[i] := by
  unfold atV
  rw [List.getElem?_map, List.getElem?_eq_getElem h]; rfl
/-- What a term is worth is a value of its sort. -/
theorem evalT_of {m : List Fu} (hm : m.all funB = true) : ∀ t : Tm, okT t = true → ofV (evalT m t) t.sort = true := by
  refine Tm.ind fun t ih ho => ?_
  have hk := okT_kids ho
  have hso := okT_sort t ho
  have hn : nodeB t = true := by rw [okT_all, Bool.and_eq_true] at ho; exact ho.2
  rw [evalT_eq]
  unfold evalN
  by_cases c1 : t.op = 1
  · rw [if_pos c1]
    unfold nodeB at hn
    rw [if_pos c1] at hn
    simp only [Bool.and_eq_true, decide_eq_true_eq] at hn
    rw [hn.1.2]
    exact ofV_iff.2 ⟨rfl, by decide, hn.1.1.1, .inl rfl⟩
  · rw [if_neg c1]
    have hb : t.op = 2 ∨ t.op = 3 → t.sort = 1 := fun c => by
      unfold nodeB at hn
      rw [if_neg c1, if_pos c] at hn
      simp only [Bool.and_eq_true, decide_eq_true_eq] at hn
      exact hn.1.2
    by_cases c2 : t.op = 2
    · rw [if_pos c2, hb (.inl c2)]; exact ofV_bool true
    · rw [if_neg c2]
      by_cases c3 : t.op = 3
      · rw [if_pos c3, hb (.inr c3)]; exact ofV_bool false
      · rw [if_neg c3]
        by_cases c4 : t.op = 4
        · rw [if_pos c4]
          exact appF_of (s := sgT t) hso hm
        · rw [if_neg c4]
          obtain ⟨hop, hkb, hsr, hw⟩ := node_op ho (by omega)
          by_cases c12 : t.op = 12
          · rw [if_pos c12]
            rw [c12] at hw hkb hsr
            obtain ⟨a, b, c, hl, hcb⟩ := sortsB_ite hw hkb
            have hs : t.sort = b.sort := by rw [hsr, hl]; rfl
            rw [hl] at ih hk ⊢
            have ha := ih b (by simp) (hk b (by simp))
            have hc := ih c (by simp) (hk c (by simp))
            rw [hcb] at hc
            rw [hs]
            show ofV (if _ then evalT m b else evalT m c) _ = true
            split
            · exact ha
            · exact hc
          · rw [if_neg c12]
            by_cases cs : t.sort = 2
            · rw [if_pos cs, cs]
              unfold numV
              split
              · exact ofV_enc _
              · split
                · exact ofV_enc _
                · split
                  · rename_i h1
                    rw [List.length_map] at h1
                    have h0 : 0 < t.kids.length := by omega
                    rw [atV_map h0]
                    have := ih _ (List.getElem_mem h0) (hk _ (List.getElem_mem h0))
                    exact ofV_iff.2 ⟨rfl, by decide, (ofV_iff.1 this).2.2.1, .inl rfl⟩
                  · exact ofV_enc _
            · rw [if_neg cs]
              have : t.sort = 1 := by
                unfold sortB at hso
                simp only [Bool.or_eq_true, decide_eq_true_eq] at hso
                omega
              rw [this]
              exact ofV_bool _
theorem evalM_of {m : List Fu} {t : Tm} (ht : isT t = true) : ofV (evalM t m) t.sort = true := by
  unfold evalM
  rw [if_pos ht]
  exact evalT_of (held_all m) t (by unfold isT at ht; rw [Bool.and_eq_true] at ht; exact ht.2)
theorem val_int {v : VR} (h : ofV v 2 = true) : v = (2, encZ (zv v.2)) := by
  obtain ⟨h1, _, h3, _⟩ := ofV_iff.1 h
  rw [enc_zv h3, ← h1]
theorem val_bool {v : VR} (h : ofV v 1 = true) : v = boolV (yesV v) := by
  obtain ⟨h1, _, h3, h4⟩ := ofV_iff.1 h
  have e := enc_zv h3
  unfold yesV boolV
  rcases h4 with h4 | h4 | h4
  · cases h4
  · rw [h4] at e ⊢
    refine Prod.ext h1 (e.symm.trans ?_)
    show encZ 0 = zzI
    exact Prod.ext rfl dig_zero
  · rw [h4] at e ⊢
    exact Prod.ext h1 e.symm
theorem yes_bool (b : Bool) : yesV (boolV b) = b := by
  cases b
  · exact decide_eq_false fun h => h zv_zz
  · exact decide_eq_true (by show ¬ zv (encZ 1) = 0; rw [zv_enc]; decide)
theorem isT_ok {t : Tm} (h : isT t = true) : okT t = true := by unfold isT at h; rw [Bool.and_eq_true] at h; exact h.2
theorem isT_mk {op : Int} {l : List Tm} (h1 : 5 ≤ op) (h2 : op ≤ 22) (hk : kidsB op l.length = true) (hw : wrongE op l = 0) (hT : ∀ t ∈ l, isT t = true) (hn : 1 + nodesL l ≤ 400) : isT (mkT op l) = true := by
  unfold isT
  rw [nodes_eq, okT_eq, okTs_all]
  rw [decide_eq_true (show 1 + nodesL (mkT op l).kids ≤ 400 from hn), Bool.true_and, show (mkT op l).kids.all okT = true from List.all_eq_true.2 (fun t ht => isT_ok (hT t ht)), Bool.true_and]
  unfold nodeB
  rw [if_neg (by show ¬ op = 1; omega), if_neg (by show ¬ (op = 2 ∨ op = 3); omega), if_neg (by show ¬ op = 4; omega)]
  show (madeB op && (decide (zzI = zzI) && decide (({ data := #[] } : ByteArray) = ByteArray.empty)) && kidsB op l.length && decide (wrongE op l = 0) && decide (sortR op l = sortR op l)) = true
  unfold madeB
  rw [hk, hw, decide_eq_true h1, decide_eq_true h2]; simp; rfl
theorem evalM_mk {op : Int} {l : List Tm} {m : List Fu} (h : isT (mkT op l) = true) (h1 : 5 ≤ op) (h12 : ¬ op = 12) (hT : ∀ t ∈ l, isT t = true) : evalM (mkT op l) m = if sortR op l = 2 then (2, numV op (l.map fun t => evalM t m)) else boolV (holdsV op (l.map fun t => evalM t m)) := by
  have e : l.map (evalT (heldM m)) = l.map fun t => evalM t m := List.map_congr_left fun t ht => by unfold evalM; rw [if_pos (hT t ht)]
  conv => lhs; unfold evalM
  rw [if_pos h, evalT_eq]
  show evalN (heldM m) (mkT op l) (l.map (evalT (heldM m))) = _
  rw [e]
  unfold evalN
  rw [if_neg (by show ¬ op = 1; omega), if_neg (by show ¬ op = 2; omega), if_neg (by show ¬ op = 3; omega), if_neg (by show ¬ op = 4; omega), if_neg (show ¬ (mkT op l).op = 12 from h12)]
  rfl
theorem FT_mk {op : Int} {l : List Tm} (h : ∀ t ∈ l, FT t) : FT (mkT op l) := (FT_eq _).2 ⟨by show 0 ≤ 4; decide, by show 0 ≤ 30; decide, h⟩
theorem KT_mk {op : Int} {l : List Tm} (hl : l.length < 1000) (h : ∀ t ∈ l, KT t) : KT (mkT op l) := (KT_eq _).2 ⟨by show 0 ≤ 9223372036854775807; decide, by show 0 ≤ 9223372036854775807; decide, by show l.length ≤ _; omega, h⟩
end Go.Proofs.YtgnfgaioeldagaaGreat
namespace Go.Proofs.YtgnfgaioeldagaaGreat
open Go Go.Abs
set_option maxHeartbeats 16000000
def GT (t : Tm) : Prop := FT t ∧ KT t ∧ isT t = true ∧ t.nodes ≤ 120
theorem all_one {a : Tm} {p : Tm → Prop} (h : p a) : ∀ t ∈ [a], p t := fun t ht => by obtain rfl := List.mem_singleton.1 ht; exact h
theorem all_two {a b : Tm} {p : Tm → Prop} (ha : p a) (hb : p b) : ∀ t ∈ [a, b], p t := fun t ht => by
  rcases List.mem_cons.1 ht with rfl | ht
  · exact ha
  · obtain rfl := List.mem_singleton.1 ht; exact hb
theorem nodesL_one (a : Tm) : nodesL [a] = a.nodes := by rw [nodesL_cons, nodesL_nil, Nat.add_zero]
theorem nodesL_two (a b : Tm) : nodesL [a, b] = a.nodes + b.nodes := by rw [nodesL_cons, nodesL_one]
theorem yes_of {v : VR} {b : Bool} (h : v = boolV b) : (decide (v.1 = 1) && yesV v) = b := by rw [h, boolV_sort, yes_bool]; rfl
/-- An operator of one, what it is worth. -/
theorem mk1 (hS : SmallSpec) (hI : IdxSpec) {op : Int} {a : Tm} {m : List Fu} (h1 : 5 ≤ op) (h2 : op ≤ 22) (h12 : ¬ op = 12) (hk : kidsB op 1 = true) (hw : wrongE op [a] = 0) (ha : GT a) (hm : limM m) (h4 : val4 m) :
    PCall Tryz.prog 27 [tI .i64 op, gT a, .one (.lit (.pointer none))] (gT (mkT op [a])) ∧
    PCall Tryz.prog 26 [gT (mkT op [a]), tLF m] (tB (decide ((evalM (mkT op [a]) m).1 = 1) && yesV (evalM (mkT op [a]) m))) ∧
    evalM (mkT op [a]) m = (if sortR op [a] = 2 then (2, numV op [evalM a m]) else boolV (holdsV op [evalM a m])) := by
  obtain ⟨a1, a2, a3, a4⟩ := ha
  have hn : 1 + nodesL [a] ≤ 400 := by rw [nodesL_one]; omega
  have hT := isT_mk (l := [a]) h1 h2 hk hw (all_one a3) hn
  refine ⟨made1 op a h1 h2 hk (by rw [chkE_zero hn]; exact hw) a1 a2 a3, yes12 hS hI _ m (FT_mk (all_one a1)) (KT_mk (by show 1 < 1000; decide) (all_one a2)) (by rw [nodes_eq]; show 1 + nodesL [a] < 100000; omega) hm h4, ?_⟩
  rw [evalM_mk hT h1 h12 (all_one a3)]; rfl
theorem mk2 (hS : SmallSpec) (hI : IdxSpec) {op : Int} {a b : Tm} {m : List Fu} (h1 : 5 ≤ op) (h2 : op ≤ 22) (h12 : ¬ op = 12) (hk : kidsB op 2 = true) (hw : wrongE op [a, b] = 0) (ha : GT a) (hb : GT b) (hm : limM m) (h4 : val4 m) :
    PCall Tryz.prog 27 [tI .i64 op, gT a, .ip (cT b)] (gT (mkT op [a, b])) ∧
    PCall Tryz.prog 26 [gT (mkT op [a, b]), tLF m] (tB (decide ((evalM (mkT op [a, b]) m).1 = 1) && yesV (evalM (mkT op [a, b]) m))) ∧
    PCall Tryz.prog 15 [gT (mkT op [a, b]), tLF m] (gV (evalM (mkT op [a, b]) m)) ∧
    evalM (mkT op [a, b]) m = (if sortR op [a, b] = 2 then (2, numV op [evalM a m, evalM b m]) else boolV (holdsV op [evalM a m, evalM b m])) := by
  obtain ⟨a1, a2, a3, a4⟩ := ha
  obtain ⟨b1, b2, b3, b4⟩ := hb
  have hn : 1 + nodesL [a, b] ≤ 400 := by rw [nodesL_two]; omega
  have hT := isT_mk (l := [a, b]) h1 h2 hk hw (all_two a3 b3) hn
  have hF := FT_mk (op := op) (all_two a1 b1)
  have hK := KT_mk (op := op) (l := [a, b]) (by show 2 < 1000; decide) (all_two a2 b2)
  have hN : (mkT op [a, b]).nodes < 100000 := by rw [nodes_eq]; show 1 + nodesL [a, b] < 100000; omega
  refine ⟨made2 op a b h1 h2 hk (by rw [chkE_zero hn]; exact hw) a1 a2 a3 b1 b2 b3, yes12 hS hI _ m hF hK hN hm h4, v_Eval hS hI _ m hF hK hN hm h4, ?_⟩
  rw [evalM_mk hT h1 h12 (all_two a3 b3)]; rfl
theorem wrong_bool1 {a : Tm} (h : a.sort = 1) : wrongE 5 [a] = 0 := by
  show (if ofB 1 [a] then linE 5 [a] else 17) = 0
  rw [ofB_one, decide_eq_true h]; rfl
theorem ofB_two {s : Int} {a b : Tm} (ha : a.sort = s) (hb : b.sort = s) : ofB s [a, b] = true := by
  show (decide (a.sort = s) && (decide (b.sort = s) && true)) = true
  rw [decide_eq_true ha, decide_eq_true hb]; rfl
theorem wrong_bool2 {op : Int} {a b : Tm} (ha : a.sort = 1) (hb : b.sort = 1) (ho : op = 6 ∨ op = 7 ∨ op = 8 ∨ op = 9 ∨ op = 10) : wrongE op [a, b] = 0 := by
  have hs : sortsB op [a, b] = true := by
    unfold sortsB
    by_cases c : op = 10
    · subst c
      show ofB a.sort [a, b] = true
      exact ofB_two rfl (by rw [ha, hb])
    · rw [if_pos (by omega)]
      exact ofB_two ha hb
  unfold wrongE
  rw [if_pos hs]
  unfold linE
  rw [if_neg (by omega), if_neg (by omega)]
theorem wrong_int2 {op : Int} {a b : Tm} (ha : a.sort = 2) (hb : b.sort = 2) (ho : op = 10 ∨ op = 11 ∨ op = 13 ∨ op = 19 ∨ op = 20 ∨ op = 21 ∨ op = 22) : wrongE op [a, b] = 0 := by
  have hs : sortsB op [a, b] = true := by
    unfold sortsB
    rw [if_neg (by omega), if_neg (by omega)]
    split
    · show ofB a.sort [a, b] = true
      exact ofB_two rfl (by rw [ha, hb])
    · exact ofB_two ha hb
  unfold wrongE
  rw [if_pos hs]
  unfold linE
  rw [if_neg (by omega), if_neg (by omega)]
theorem wrong_div {op : Int} {a : Tm} {d : Int} (ha : a.sort = 2) (hd : ¬ d = 0) (ho : op = 16 ∨ op = 17) : wrongE op [a, tmN d] = 0 := by
  have hs : sortsB op [a, tmN d] = true := by
    unfold sortsB
    rw [if_neg (by omega), if_neg (by omega), if_neg (by omega)]
    exact ofB_two ha rfl
  unfold wrongE
  rw [if_pos hs]
  unfold linE
  rw [if_neg (by omega), if_pos (by omega)]
  have hk : numK [a, tmN d] 1 = (encZ d, true) := rfl
  rw [hk]
  show (if zv (encZ d) = 0 then 12 else 0) = (0 : Int)
  rw [zv_enc, if_neg hd]
theorem GT_num {d : Int} (h : lN d ≤ 4) : GT (tmN d) := ⟨FT_num d h, KT_num d (by omega), isT_num d, by rw [nodes_num]; decide⟩
end Go.Proofs.YtgnfgaioeldagaaGreat
