/- At every input the call answers true and leaves its arguments as they were; no conditions. -/
import Derived.Test.YtgnfgaioeldagaaGreatVh
import Derived.Test.YtgnfgaioeldagaaGreatVg
import Derived.Test.YtgnfgaioeldagaaGreatVe
set_option linter.unusedSimpArgs false
set_option linter.unusedVariables false
namespace Go.Proofs.YtgnfgaioeldagaaGreat
open Go Go.Abs
set_option maxHeartbeats 16000000
theorem fewT_FT {t : Tm} (h : fewT t = true) : FT t ∧ t.nodes ≤ 120 := by
  unfold fewT at h
  rw [Bool.and_eq_true] at h
  exact ⟨ftB_FT t h.2, of_decide_eq_true h.1⟩
theorem limM_put {m : List Fu} {name : ByteArray} {v : VR} (hm : limM m) (hl : m.length ≤ 1000) (hn : name.size < 1000) (hv : v.2.2.length ≤ 4) : limM (putM m name v) := by
  have hh : limM (heldM m) ∧ (heldM m).length ≤ 1000 := by
    unfold heldM; split
    · exact ⟨hm, hl⟩
    · exact ⟨⟨by decide, fun f hf => by cases hf⟩, by simp⟩
  unfold putM putF
  generalize heldM m = x at *
  have l1 := List.length_filter_le (fun g : Fu => sLt g.1.1 name) x
  have l2 := List.length_filter_le (fun g : Fu => sLt name g.1.1) x
  refine ⟨by rw [List.length_append, List.length_append]; simp only [List.length_singleton]; omega, fun f hf => ?_⟩
  rw [List.mem_append, List.mem_append] at hf
  rcases hf with (hf | hf) | hf
  · exact hh.1.2 f (List.mem_filter.1 hf).1
  · obtain rfl := List.mem_singleton.1 hf
    exact ⟨by show name.size < _; omega, by show 0 < 1000000000; decide, by show 0 < 1000000000; decide, (fun r hr => by cases hr), by show v.2.2.length < 1000000000; omega⟩
  · exact hh.1.2 f (List.mem_filter.1 hf).1
theorem fmB_len {m : List Fu} (h : fmB m = true) : m.length ≤ 12 := by
  unfold fmB at h
  rw [Bool.and_eq_true] at h
  exact of_decide_eq_true h.2
theorem beqB (b : Bool) : (b == b) = true := by cases b <;> rfl
theorem appF_app {s : Sg} {l : List VR} {b c : List Fu} (h : appF s l b = appF s l c) : ∀ a : List Fu, appF s l (a ++ b) = appF s l (a ++ c)
  | [] => h
  | f :: a => by
    show (if f.1 = s then _ else appF s l (a ++ b)) = (if f.1 = s then _ else appF s l (a ++ c))
    rw [appF_app h a]
theorem appF_one {s : Sg} {l : List VR} {f : Fu} {a : List Fu} (h : ¬ f.1 = s) : appF s l (f :: a) = appF s l a := if_neg h
theorem lN_64 {z : Int} (h1 : -9223372036854775808 ≤ z) (h2 : z < 9223372036854775808) : lN z ≤ 3 := lN_of (by rw [show BB ^ 3 = 1000000000000000000000000000 from rfl]; omega)
end Go.Proofs.YtgnfgaioeldagaaGreat
namespace Go.Proofs.YtgnfgaioeldagaaGreat
open Go Go.Abs
set_option maxHeartbeats 16000000
/-! ### Constants that are put -/
theorem pw_rise : ∀ {m : List Fu}, m.Pairwise (fun a b => sLt a.1.1 b.1.1 = true) → riseB m = true
  | [], _ => rfl
  | [_], _ => rfl
  | a :: b :: m, h => by
    obtain ⟨h1, h2⟩ := List.pairwise_cons.1 h
    unfold riseB
    rw [h1 b (List.mem_cons_self ..), pw_rise h2]; rfl
theorem held_isM (m : List Fu) : isM (heldM m) = true := by
  unfold heldM; split
  · assumption
  · rfl
theorem isM_put {m : List Fu} {s : ByteArray} {v : VR} (hs : symB s = true) (hr : sortB v.1 = true) (hv : ofV v v.1 = true) : isM (putM m s v) = true := by
  have ha := held_all m
  have hp := held_rise m
  unfold putM
  generalize heldM m = x at *
  unfold isM
  rw [Bool.and_eq_true]
  have hf : funB ((s, [], v.1), [], v) = true := by
    have := isM_one hs hr hv
    unfold isM at this
    rw [Bool.and_eq_true, List.all_cons, Bool.and_eq_true] at this
    exact this.1.1
  unfold putF
  constructor
  · rw [List.all_append, List.all_append]
    have h1 : ∀ p : Fu → Bool, (x.filter p).all funB = true := fun p => List.all_eq_true.2 fun g hg => List.all_eq_true.1 ha g (List.mem_filter.1 hg).1
    rw [h1, h1]
    simp [hf]
  · refine pw_rise ?_
    rw [List.append_assoc, List.pairwise_append]
    refine ⟨hp.filter _, List.pairwise_append.2 ⟨List.pairwise_singleton _ _, hp.filter _, fun a ha b hb => ?_⟩, fun a ha b hb => ?_⟩
    · obtain rfl := List.mem_singleton.1 ha
      exact (List.mem_filter.1 hb).2
    · have h1 : sLt a.1.1 s = true := (List.mem_filter.1 ha).2
      rcases List.mem_append.1 hb with hb | hb
      · obtain rfl := List.mem_singleton.1 hb
        exact h1
      · exact sLt_trans h1 (List.mem_filter.1 hb).2
theorem app_put {m : List Fu} {s : ByteArray} {v : VR} : appF (s, [], v.1) [] (putF m ((s, [], v.1), [], v)) = v := by
  unfold putF
  rw [List.append_assoc]
  have : ∀ a : List Fu, (∀ g ∈ a, sLt g.1.1 s = true) → ∀ b, appF (s, [], v.1) [] (a ++ b) = appF (s, [], v.1) [] b := by
    intro a
    induction a with
    | nil => intro _ b; rfl
    | cons g a ih =>
      intro h b
      have hg := h g (List.mem_cons_self ..)
      rw [List.cons_append, appF_one (fun e => sLt_ne hg (by rw [e])), ih fun g hg => h g (List.mem_cons_of_mem _ hg)]
  rw [this _ fun g hg => (List.mem_filter.1 hg).2]
  show (if (s, [], v.1) = (s, ([] : List Int), v.1) then _ else _) = _
  rw [if_pos rfl]; rfl
theorem put_put {m : List Fu} {s : ByteArray} {f g : Fu} (hf : f.1.1 = s) (hg : g.1.1 = s) : putF (putF m f) g = m.filter (fun h => sLt h.1.1 s) ++ [g] ++ m.filter (fun h => sLt s h.1.1) := by
  unfold putF
  rw [hf, hg]
  have e1 : (m.filter (fun h => sLt h.1.1 s) ++ [f] ++ m.filter (fun h => sLt s h.1.1)).filter (fun h => sLt h.1.1 s) = m.filter (fun h => sLt h.1.1 s) := by
    rw [List.filter_append, List.filter_append, List.filter_filter, List.filter_filter]
    rw [List.filter_cons_of_neg (by rw [hf, sLt_irrefl]; simp)]
    have e : m.filter (fun a => sLt a.1.1 s && sLt s a.1.1) = [] := List.filter_eq_nil_iff.2 fun a _ h => by
      rw [Bool.and_eq_true] at h
      rw [sLt_asymm h.1] at h; cases h.2
    rw [e]; simp
  have e2 : (m.filter (fun h => sLt h.1.1 s) ++ [f] ++ m.filter (fun h => sLt s h.1.1)).filter (fun h => sLt s h.1.1) = m.filter (fun h => sLt s h.1.1) := by
    rw [List.filter_append, List.filter_append, List.filter_filter, List.filter_filter]
    rw [List.filter_cons_of_neg (by rw [hf, sLt_irrefl]; simp)]
    have e : m.filter (fun a => sLt s a.1.1 && sLt a.1.1 s) = [] := List.filter_eq_nil_iff.2 fun a _ h => by
      rw [Bool.and_eq_true] at h
      rw [sLt_asymm h.1] at h; cases h.2
    rw [e]; simp
  rw [e1, e2]
theorem count_ne {m : List Fu} {s : ByteArray} : (m.filter fun g => !(decide (g.1.1 = s))).length = (m.filter fun g => sLt g.1.1 s).length + (m.filter fun g => sLt s g.1.1).length := by
  induction m with
  | nil => rfl
  | cons g m ih =>
    rcases sLt_tri g.1.1 s with h | h | h
    · rw [List.filter_cons_of_pos (by rw [decide_eq_false (sLt_ne h)]; rfl), List.filter_cons_of_pos (p := fun g : Fu => sLt g.1.1 s) (by exact h), List.filter_cons_of_neg (p := fun g : Fu => sLt s g.1.1) (by rw [sLt_asymm h]; simp), List.length_cons, List.length_cons, ih]; omega
    · rw [List.filter_cons_of_neg (by rw [decide_eq_true h]; simp), List.filter_cons_of_neg (p := fun g : Fu => sLt g.1.1 s) (by rw [h, sLt_irrefl]; simp), List.filter_cons_of_neg (p := fun g : Fu => sLt s g.1.1) (by rw [h, sLt_irrefl]; simp), ih]
    · rw [List.filter_cons_of_pos (by rw [decide_eq_false (fun e => sLt_ne h e.symm)]; rfl), List.filter_cons_of_neg (p := fun g : Fu => sLt g.1.1 s) (by rw [sLt_asymm h]; simp), List.filter_cons_of_pos (p := fun g : Fu => sLt s g.1.1) (by exact h), List.length_cons, List.length_cons, ih]; omega
theorem mem_put {m : List Fu} {f g : Fu} (hg : g ∈ m) (h : ¬ g.1.1 = f.1.1) : g ∈ m.filter (fun h => sLt h.1.1 f.1.1) ++ [f] ++ m.filter (fun h => sLt f.1.1 h.1.1) := by
  rw [List.mem_append, List.mem_append]
  rcases sLt_tri g.1.1 f.1.1 with d | d | d
  · exact .inl (.inl (List.mem_filter.2 ⟨hg, d⟩))
  · exact (h d).elim
  · exact .inr (List.mem_filter.2 ⟨hg, d⟩)
/-- A name of k and a letter. -/
abbrev sK (c : UInt8) : ByteArray := { data := #[107] } ++ strOf [c]
theorem sK_eq (c : UInt8) : sK c = { data := #[107, c] } := by
  apply ByteArray.ext
  rw [ByteArray.data_append]; rfl
theorem symK (c : UInt8) (h1 : 97 ≤ c.toNat) (h2 : c.toNat ≤ 122) : symB (sK c) = true := by
  rw [sK_eq]
  have hc : signB c = true := by
    unfold signB
    rw [decide_eq_true (show 97 ≤ c.toNat ∧ c.toNat ≤ 122 from ⟨h1, h2⟩)]; simp
  unfold symB
  rw [ByteArray.toList_eq]
  show (true && true && ([107, c].all signB) && !(digitB 107)) = true
  rw [show digitB 107 = false by decide, List.all_cons, List.all_cons, hc, show signB 107 = true by decide]; rfl
theorem sK_size (c : UInt8) : (sK c).size = 2 := by rw [sK_eq]; rfl
theorem evalM_con {s : ByteArray} {m : List Fu} {v : VR} (hs : symB s = true) (hv : v.1 = 2) (hm : isM (putM m s v) = true) : evalM (tmC s 2) (putM m s v) = v := by
  unfold evalM
  rw [if_pos (isT_con s 2 hs (by decide)), held_of hm, eval_con, ← hv]
  exact app_put
theorem putM_len {m : List Fu} {s : ByteArray} {v w : VR} (hm : isM m = true) (hx : isM (putM m s v) = true) : putM (putM m s v) s w = m.filter (fun h => sLt h.1.1 s) ++ [((s, [], w.1), [], w)] ++ m.filter (fun h => sLt s h.1.1) := by
  show putF (heldM (putM m s v)) _ = _
  rw [held_of hx]
  unfold putM
  rw [held_of hm]
  exact put_put rfl rfl
theorem val4_put {m : List Fu} {s : ByteArray} {v : VR} (h : val4 m) (hv : v.2.2.length ≤ 4) : val4 (putM m s v) := by
  have hh := val4_held h
  unfold putM putF
  intro f hf
  rw [List.mem_append, List.mem_append] at hf
  rcases hf with (hf | hf) | hf
  · exact hh f (List.mem_filter.1 hf).1
  · obtain rfl := List.mem_singleton.1 hf
    exact ⟨hv, fun r hr => by cases hr⟩
  · exact hh f (List.mem_filter.1 hf).1
theorem cFu_sz {m : List Fu} : ∀ y ∈ m.map cFu, y.length = 7 := fun y hy => by obtain ⟨f, _, rfl⟩ := List.mem_map.1 hy; rfl
theorem decide_one {f g : Fu} : decide ([f] = [g]) = decide (f = g) := decide_eq_decide.2 (by simp)
theorem cFu_sl {m : List Fu} {i : Nat} (h : i < m.length) : (m.take (i + 1)).drop i = [m[i]] := by
  rw [List.drop_take, show i + 1 - i = 1 by omega, List.drop_eq_getElem_cons h]; rfl
set_option maxRecDepth 100000 in
theorem p_ValuePuts (hS : SmallSpec) (hI : IdxSpec) (hC : CmpSpec) (m : List Fu) (km : KM m) (a : Int) (a1 : -9223372036854775808 ≤ a) (a2 : a < 9223372036854775808) (b : Int) (b1 : -9223372036854775808 ≤ b) (b2 : b < 9223372036854775808) (nm : Int) (n1 : 0 ≤ nm) (n2 : nm < 256) : PCall Tryz.prog 6 [tLF m, tI .i64 a, tI .i64 b, tI .u8 nm] (tB true) := by
  have hk := known12 hS hI hC
  have h3 := fewFuns12 m km
  refine pcall_of_wpA mixed Tryz.call6 Tryz.func6 rfl Tryz.ntmps6 Tryz.results6 (by simp) (by decide) ?_
  cases c3 : fmB m with
  | false =>
    rw [c3] at h3
    simp only [go_sem]
    ((repeat (refine regA_by 0 rfl ?_; simp only [go_sem])); refine call_pure (hk) rfl ?_; simp only [go_sem]; (repeat (refine regA_by 0 rfl ?_; simp only [go_sem])); refine call_pure (h3) rfl ?_; simp only [go_sem]; (repeat (refine regA_by 0 rfl ?_; simp only [go_sem])))
  | true =>
  rw [c3] at h3
  obtain ⟨hm, h4⟩ := fmB_lim c3
  have hml := fmB_len c3
  have h5 := v_Is hS hI m hm
  cases c5 : isM m with
  | false =>
    rw [c5] at h5
    simp only [go_sem]
    ((repeat (refine regA_by 0 rfl ?_; simp only [go_sem])); refine call_pure (hk) rfl ?_; simp only [go_sem]; (repeat (refine regA_by 0 rfl ?_; simp only [go_sem])); refine call_pure (h3) rfl ?_; simp only [go_sem]; (repeat (refine regA_by 0 rfl ?_; simp only [go_sem])); refine call_pure (h5) rfl ?_; simp only [go_sem]; (repeat (refine regA_by 0 rfl ?_; simp only [go_sem])))
  | true =>
  rw [c5] at h5
  obtain ⟨c, hc1, hc2, hc3⟩ : ∃ c : Nat, IntKind.u8.wrap (97 + nm.tmod 26) = (c : Int) ∧ 97 ≤ c ∧ c ≤ 122 := by
    have e : nm.tmod 26 = nm % 26 := by rw [Int.tmod_eq_emod_of_nonneg n1]
    refine ⟨(97 + nm % 26).toNat, ?_, by omega, by omega⟩
    rw [e]
    unfold IntKind.wrap; simp [IntKind.signed, IntKind.bits]; omega
  have ec : convV Tryz.prog 62 9 (AV.one (C.t (T.seq (some false) [[T.lit (Value.int IntKind.u8 (c : Int))]]))) = some (.one (.t (.lit (.string (strOf [UInt8.ofNat c]))))) := by
    have hd : (isSliceD (tdesc Tryz.prog 62) && tok Tryz.prog (telem Tryz.prog 62) && isU8D (tdesc Tryz.prog (telem Tryz.prog 62)) && isStrD (tdesc Tryz.prog 9)) = true := by kernel_rfl
    simp only [convV, hd, if_true]
    rfl
  obtain ⟨s, hs⟩ : ∃ s, s = sK (UInt8.ofNat c) := ⟨_, rfl⟩
  have hcn : (UInt8.ofNat c).toNat = c := by simp; omega
  have hsym : symB s = true := by rw [hs]; exact symK _ (by omega) (by omega)
  have hsz : s.size = 2 := by rw [hs]; exact sK_size _
  have es : ({ data := #[107] } : ByteArray) ++ strOf [UInt8.ofNat c] = s := hs.symm
  clear hs hcn
  have esb : strB BinOp.add { data := #[107] } (strOf [UInt8.ofNat c]) = some (.one (.t (.lit (.string s)))) := by rw [← es]; rfl
  have oa := i_Of a a1 a2
  have ob := i_Of b b1 b2
  have la : lN a ≤ 4 := by
    have := lN_64 a1 a2; omega
  have lb : lN b ≤ 4 := by
    have := lN_64 b1 b2; omega
  have pX := v_Put hS hI hC m s (2, encZ a) hm
  have lX : limM (putM m s (2, encZ a)) ∧ val4 (putM m s (2, encZ a)) := ⟨limM_put hm (by omega) (by omega) la, val4_put h4 la⟩
  have iX : isM (putM m s (2, encZ a)) = true := isM_put hsym (show sortB 2 = true by decide) (ofV_int a)
  have pY := v_Put hS hI hC (putM m s (2, encZ a)) s (2, encZ b) lX.1
  have iY : isM (putM (putM m s (2, encZ a)) s (2, encZ b)) = true := isM_put hsym (show sortB 2 = true by decide) (ofV_int b)
  have eX : putM m s (2, encZ a) = m.filter (fun h => sLt h.1.1 s) ++ [((s, [], 2), [], (2, encZ a))] ++ m.filter (fun h => sLt s h.1.1) := by unfold putM; rw [held_of c5]; rfl
  have eY := putM_len (w := (2, encZ b)) c5 iX
  have hlX : (putM m s (2, encZ a)).length = (m.filter fun g => !(decide (g.1.1 = s))).length + 1 := by rw [eX, count_ne]; simp; omega
  have hlY : (putM (putM m s (2, encZ a)) s (2, encZ b)).length = (m.filter fun g => !(decide (g.1.1 = s))).length + 1 := by rw [eY, count_ne]; simp; omega
  have hfl := List.length_filter_le (fun g : Fu => !(decide (g.1.1 = s))) m
  have lY : limM (putM (putM m s (2, encZ a)) s (2, encZ b)) ∧ val4 (putM (putM m s (2, encZ a)) s (2, encZ b)) := ⟨limM_put lX.1 (by omega) (by omega) lb, val4_put lX.2 lb⟩
  have hmem : ∀ g ∈ m, ¬ g.1.1 = s → g ∈ putM (putM m s (2, encZ a)) s (2, encZ b) := fun g hg hne => by
    rw [eY]
    exact mem_put (f := ((s, [], 2), [], (2, encZ b))) hg hne
  have hcon := con12 s 2
  have vX := v_Eval hS hI (tmC s 2) (putM m s (2, encZ a)) (FT_con _ _ (by omega)) (KT_con _ _ (by omega)) (by rw [nodes_con]; decide) lX.1 lX.2
  have vY := v_Eval hS hI (tmC s 2) (putM (putM m s (2, encZ a)) s (2, encZ b)) (FT_con _ _ (by omega)) (KT_con _ _ (by omega)) (by rw [nodes_con]; decide) lY.1 lY.2
  rw [evalM_con hsym rfl iX] at vX
  rw [evalM_con hsym rfl iY] at vY
  have qa := tB_of (i_Equal_e a a (by omega) (by omega)) rfl
  have qb := tB_of (i_Equal_e b b (by omega) (by omega)) rfl
  have isX := v_Is hS hI _ lX.1
  have isY := v_Is hS hI _ lY.1
  rw [iX] at isX
  rw [iY] at isY
  have hSF : ∀ f ∈ m, ∀ g ∈ putM (putM m s (2, encZ a)) s (2, encZ b), PCall Tryz.prog 22 [tLF [f], tLF [g]] (tB (decide (f = g))) := fun f hf g hg => by
    have := rv_SameFuns [f] [g] ⟨by show 1 < 1000000000; decide, fun x hx => by obtain rfl := List.mem_singleton.1 hx; exact hm.2 _ hf⟩ ⟨by show 1 < 1000000000; decide, fun x hx => by obtain rfl := List.mem_singleton.1 hx; exact lY.1.2 _ hg⟩
    rwa [decide_one] at this
  clear eX eY iX iY lX
  generalize putM (putM m s (2, encZ a)) s (2, encZ b) = Y at *
  generalize putM m s (2, encZ a) = X at *
  have hlXY : ((X.length : Int)) = (Y.length : Int) := by omega
  simp only [go_sem, hc1, ec, esb]
  ((repeat (refine regA_by 0 rfl ?_; simp only [go_sem, hc1, ec, esb, cT_eq, Tm.op, Tm.num, Tm.name, Tm.sort, Tm.kids, hlXY])); refine call_pure (hk) rfl ?_; simp only [go_sem, hc1, ec, esb, cT_eq, Tm.op, Tm.num, Tm.name, Tm.sort, Tm.kids, hlXY]; (repeat (refine regA_by 0 rfl ?_; simp only [go_sem, hc1, ec, esb, cT_eq, Tm.op, Tm.num, Tm.name, Tm.sort, Tm.kids, hlXY])); refine call_pure (h3) rfl ?_; simp only [go_sem, hc1, ec, esb, cT_eq, Tm.op, Tm.num, Tm.name, Tm.sort, Tm.kids, hlXY]; (repeat (refine regA_by 0 rfl ?_; simp only [go_sem, hc1, ec, esb, cT_eq, Tm.op, Tm.num, Tm.name, Tm.sort, Tm.kids, hlXY])); refine call_pure (h5) rfl ?_; simp only [go_sem, hc1, ec, esb, cT_eq, Tm.op, Tm.num, Tm.name, Tm.sort, Tm.kids, hlXY]; (repeat (refine regA_by 0 rfl ?_; simp only [go_sem, hc1, ec, esb, cT_eq, Tm.op, Tm.num, Tm.name, Tm.sort, Tm.kids, hlXY])); refine call_pure (oa) rfl ?_; simp only [go_sem, hc1, ec, esb, cT_eq, Tm.op, Tm.num, Tm.name, Tm.sort, Tm.kids, hlXY]; (repeat (refine regA_by 0 rfl ?_; simp only [go_sem, hc1, ec, esb, cT_eq, Tm.op, Tm.num, Tm.name, Tm.sort, Tm.kids, hlXY])); refine call_pure (pX) rfl ?_; simp only [go_sem, hc1, ec, esb, cT_eq, Tm.op, Tm.num, Tm.name, Tm.sort, Tm.kids, hlXY]; (repeat (refine regA_by 0 rfl ?_; simp only [go_sem, hc1, ec, esb, cT_eq, Tm.op, Tm.num, Tm.name, Tm.sort, Tm.kids, hlXY])); refine call_pure (ob) rfl ?_; simp only [go_sem, hc1, ec, esb, cT_eq, Tm.op, Tm.num, Tm.name, Tm.sort, Tm.kids, hlXY]; (repeat (refine regA_by 0 rfl ?_; simp only [go_sem, hc1, ec, esb, cT_eq, Tm.op, Tm.num, Tm.name, Tm.sort, Tm.kids, hlXY])); refine call_pure (pY) rfl ?_; simp only [go_sem, hc1, ec, esb, cT_eq, Tm.op, Tm.num, Tm.name, Tm.sort, Tm.kids, hlXY]; (repeat (refine regA_by 0 rfl ?_; simp only [go_sem, hc1, ec, esb, cT_eq, Tm.op, Tm.num, Tm.name, Tm.sort, Tm.kids, hlXY])); refine call_pure (hcon) rfl ?_; simp only [go_sem, hc1, ec, esb, cT_eq, Tm.op, Tm.num, Tm.name, Tm.sort, Tm.kids, hlXY]; (repeat (refine regA_by 0 rfl ?_; simp only [go_sem, hc1, ec, esb, cT_eq, Tm.op, Tm.num, Tm.name, Tm.sort, Tm.kids, hlXY])); refine call_pure (isX) rfl ?_; simp only [go_sem, hc1, ec, esb, cT_eq, Tm.op, Tm.num, Tm.name, Tm.sort, Tm.kids, hlXY]; (repeat (refine regA_by 0 rfl ?_; simp only [go_sem, hc1, ec, esb, cT_eq, Tm.op, Tm.num, Tm.name, Tm.sort, Tm.kids, hlXY])); refine call_pure (isY) rfl ?_; simp only [go_sem, hc1, ec, esb, cT_eq, Tm.op, Tm.num, Tm.name, Tm.sort, Tm.kids, hlXY]; (repeat (refine regA_by 0 rfl ?_; simp only [go_sem, hc1, ec, esb, cT_eq, Tm.op, Tm.num, Tm.name, Tm.sort, Tm.kids, hlXY])); refine call_pure (vX) rfl ?_; simp only [go_sem, hc1, ec, esb, cT_eq, Tm.op, Tm.num, Tm.name, Tm.sort, Tm.kids, hlXY]; (repeat (refine regA_by 0 rfl ?_; simp only [go_sem, hc1, ec, esb, cT_eq, Tm.op, Tm.num, Tm.name, Tm.sort, Tm.kids, hlXY])); refine call_pure (oa) rfl ?_; simp only [go_sem, hc1, ec, esb, cT_eq, Tm.op, Tm.num, Tm.name, Tm.sort, Tm.kids, hlXY]; (repeat (refine regA_by 0 rfl ?_; simp only [go_sem, hc1, ec, esb, cT_eq, Tm.op, Tm.num, Tm.name, Tm.sort, Tm.kids, hlXY])); refine call_pure (qa) rfl ?_; simp only [go_sem, hc1, ec, esb, cT_eq, Tm.op, Tm.num, Tm.name, Tm.sort, Tm.kids, hlXY]; (repeat (refine regA_by 0 rfl ?_; simp only [go_sem, hc1, ec, esb, cT_eq, Tm.op, Tm.num, Tm.name, Tm.sort, Tm.kids, hlXY])); refine call_pure (vY) rfl ?_; simp only [go_sem, hc1, ec, esb, cT_eq, Tm.op, Tm.num, Tm.name, Tm.sort, Tm.kids, hlXY]; (repeat (refine regA_by 0 rfl ?_; simp only [go_sem, hc1, ec, esb, cT_eq, Tm.op, Tm.num, Tm.name, Tm.sort, Tm.kids, hlXY])); refine call_pure (ob) rfl ?_; simp only [go_sem, hc1, ec, esb, cT_eq, Tm.op, Tm.num, Tm.name, Tm.sort, Tm.kids, hlXY]; (repeat (refine regA_by 0 rfl ?_; simp only [go_sem, hc1, ec, esb, cT_eq, Tm.op, Tm.num, Tm.name, Tm.sort, Tm.kids, hlXY])); refine call_pure (qb) rfl ?_; simp only [go_sem, hc1, ec, esb, cT_eq, Tm.op, Tm.num, Tm.name, Tm.sort, Tm.kids, hlXY]; (repeat (refine regA_by 0 rfl ?_; simp only [go_sem, hc1, ec, esb, cT_eq, Tm.op, Tm.num, Tm.name, Tm.sort, Tm.kids, hlXY])))
  clear hk h3 h5 oa pX ob pY hcon isX isY vX qa vY qb
  obtain ⟨N, hN⟩ : ∃ N : Nat → Nat, N = fun i => ((m.take i).filter fun g => !(decide (g.1.1 = s))).length := ⟨_, rfl⟩
  have hN0 : N 0 = 0 := by rw [hN]; rfl
  have hNe : N m.length + 1 = Y.length := by rw [hlY, hN]; show ((m.take m.length).filter _).length + 1 = _; rw [List.take_length]
  have hNl : ∀ i, N i ≤ 12 := fun i => by
    have h1 := List.length_filter_le (fun g : Fu => !(decide (g.1.1 = s))) (m.take i)
    have h2 : (m.take i).length ≤ m.length := by rw [List.length_take]; omega
    rw [hN]; show ((m.take i).filter _).length ≤ 12; omega
  have hNs : ∀ i (h : i < m.length), N (i + 1) = N i + if m[i].1.1 = s then 0 else 1 := fun i h => by
    rw [hN]
    show ((m.take (i + 1)).filter _).length = ((m.take i).filter _).length + _
    rw [List.take_succ_eq_append_getElem h, List.filter_append, List.length_append]
    by_cases e : m[i].1.1 = s
    · rw [if_pos e, List.filter_cons_of_neg (by rw [decide_eq_true e]; simp)]; rfl
    · rw [if_neg e, List.filter_cons_of_pos (by rw [decide_eq_false e]; rfl)]; rfl
  clear hN
  refine loop_inv (fun i : Nat => stL 125 [(0, .one (.t (eL cFu m))), (9, .one (.t (.lit (.string s)))), (11, .one (.t (eL cFu Y))), (13, litI .i64 (N i : Nat)), (14, litI .i64 i)] []) (fun i => i ≤ m.length) (fun i => m.length - i) 0 ?_ (Nat.zero_le _) ?_
  · (refine gstep_list rfl ?_ ?_ ?_ ?_ <;> (try simp only [go_sem, tail_one, hN0]) <;> (try simp))
  · intro i hi
    simp only [go_sem]
    refine CondR_if (fun hlt => ?_) (fun hge => ?_)
    · have hlt' : i < m.length := by omega
      have hel : elemD cFu m i = cFu m[i] := elemD_lt hlt'
      have hb := bytes_eq m[i].1.1 s
      have hns := hNs i hlt'
      have hmm := hmem _ (List.getElem_mem hlt')
      have hSFi := hSF _ (List.getElem_mem hlt')
      have hsl := cFu_sl hlt'
      have hNi := hNl i
      have ilt : ((i : Int) < (m.length : Int)) = True := eq_true (by omega)
      generalize m[i] = f at *
      by_cases e : f.1.1 = s
      · rw [decide_eq_true e] at hb
        rw [if_pos e, Nat.add_zero] at hns
        simp only [go_sem, hel, ilt, hb]
        (repeat (refine And.intro (by omega) ?_))
        refine ⟨i + 1, hlt', (by show m.length - (i + 1) < m.length - i; omega), ?_⟩
        (refine gstep_list rfl ?_ ?_ ?_ ?_ <;> (try simp only [go_sem, tail_one, hns, wrap_i64 (n := (i : Int) + 1) (by omega) (by omega)]) <;> (try simp))
      · rw [decide_eq_false e] at hb
        rw [if_neg e] at hns
        have hYm := hmm e
        simp only [go_sem, hel, ilt, hb]
        (repeat (refine And.intro (by omega) ?_))
        refine loop_inv (fun k : Nat => stL 125 [(0, .one (.t (eL cFu m))), (9, .one (.t (.lit (.string s)))), (11, .one (.t (eL cFu Y))), (13, litI .i64 (N (i + 1) : Nat)), (14, litI .i64 i), (15, litB ((Y.take k).any fun g => decide (f = g))), (16, litI .i64 k)] []) (fun k => k ≤ Y.length) (fun k => Y.length - k) 0 ?_ (Nat.zero_le _) ?_
        · (refine gstep_list rfl ?_ ?_ ?_ ?_ <;> (try simp only [go_sem, tail_one, hns, List.take_zero, List.any_nil, wrap_i64 (n := ((N i : Nat) : Int) + 1) (by omega) (by omega), Int.natCast_add]) <;> (try simp))
        · intro k hk
          simp only [go_sem]
          refine CondR_if (fun klt => ?_) (fun kge => ?_)
          · have klt' : k < Y.length := by omega
            have kns := any_take_succ (p := fun g => decide (f = g)) klt'
            have ksl := cFu_sl klt'
            have hS1 := hSFi _ (List.getElem_mem klt')
            generalize Y[k] = g at *
            generalize hq : (Y.take k).any (fun g => decide (f = g)) = q at *
            have w1 : IntKind.i64.wrap ((i : Int) + 1) = ((i + 1 : Nat) : Int) := by rw [wrap_i64 (by omega) (by omega)]; rfl
            have w2 : IntKind.i64.wrap ((k : Int) + 1) = ((k + 1 : Nat) : Int) := by rw [wrap_i64 (by omega) (by omega)]; rfl
            cases q with
            | true =>
              simp only [go_sem]
              refine regA_by 0 rfl ?_
              simp only [go_sem]
              refine ⟨k + 1, klt', (by show Y.length - (k + 1) < Y.length - k; omega), ?_⟩
              (refine gstep_list rfl ?_ ?_ ?_ ?_ <;> (try simp only [go_sem, tail_one, kns, Bool.true_or, w2]) <;> (try simp))
            | false =>
              rw [Bool.false_or] at kns
              simp only [go_sem]
              refine regA_by 0 rfl ?_
              have i0 : ((0 : Int) ≤ (i : Int)) = True := eq_true (by omega)
              have i1 : ((0 : Int) ≤ (i : Int) + 1) = True := eq_true (by omega)
              have k0 : ((0 : Int) ≤ (k : Int)) = True := eq_true (by omega)
              have k1 : ((0 : Int) ≤ (k : Int) + 1) = True := eq_true (by omega)
              simp only [go_sem, w1, w2, i0, i1, k0, k1, hsl, ksl]
              refine ⟨⟨by omega, by omega⟩, ⟨by omega, by omega⟩, ?_⟩
              refine call_pure hS1 rfl ?_
              simp only [go_sem]
              refine ⟨k + 1, klt', (by show Y.length - (k + 1) < Y.length - k; omega), ?_⟩
              (refine gstep_list rfl ?_ ?_ ?_ ?_ <;> (try simp only [go_sem, tail_one, kns, w2]) <;> (try simp))
          · obtain rfl : k = Y.length := by omega
            rw [List.take_length, List.any_eq_true.2 ⟨f, hYm, by simp⟩]
            simp only [go_sem]
            refine ⟨i + 1, hlt', (by show m.length - (i + 1) < m.length - i; omega), ?_⟩
            (refine gstep_list rfl ?_ ?_ ?_ ?_ <;> (try simp only [go_sem, tail_one, wrap_i64 (n := (i : Int) + 1) (by omega) (by omega)]) <;> (try simp))
    · obtain rfl : i = m.length := by omega
      have := hNl m.length
      have e : decide ((Y.length : Int) = ((N m.length : Nat) : Int) + 1) = true := decide_eq_true (by omega)
      simp only [go_sem, wrap_i64 (n := ((N m.length : Nat) : Int) + 1) (by omega) (by omega), e]
end Go.Proofs.YtgnfgaioeldagaaGreat
