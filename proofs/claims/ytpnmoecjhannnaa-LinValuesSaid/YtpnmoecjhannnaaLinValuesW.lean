/- At every input the call answers true and leaves its arguments as they were; no conditions. -/
import Derived.Test.YtpnmoecjhannnaaPd
set_option linter.unusedSimpArgs false
set_option linter.unusedVariables false
namespace Go.Proofs.Ytpnmoecjhannnaa
open Go Go.Abs
set_option maxHeartbeats 16000000
def setP (p : Nat → Int) (k : Nat) (q : Int) : Nat → Int := fun v => if v = k then q else p v
theorem atM_setP {p : Nat → Int} {k : Nat} {q : Int} : ∀ {l : List Mn} {n : Nat}, WM n l → atM l (setP p k q) = atM l p + coM l k * (q - p k) := by
  intro l
  induction l with
  | nil => intro n _; show 0 = 0 + 0 * _; omega
  | cons m l ih =>
    intro n w
    show m.2 * setP p k q m.1 + atM l (setP p k q) = m.2 * p m.1 + atM l p + (if m.1 = k then m.2 else coM l k) * (q - p k)
    rw [ih w.2.2]
    unfold setP
    by_cases e : m.1 = k
    · rw [if_pos e, if_pos e, coM_low w.2.2 (by omega), Int.zero_mul, Int.mul_sub, e]; omega
    · rw [if_neg e, if_neg e]; omega
theorem at_put {f g : Fm} (hf : WF f) (k : Nat) (p : Nat → Int) : atF (putF f k g) p = atF f (setP p k (atF g p)) := by
  have e : atF f (setP p k (atF g p)) = atF f p + coM f.1 k * (atF g p - p k) := by
    unfold atF; rw [atM_setP hf]; omega
  rw [e]
  unfold putF
  rw [coI_nat, Int.toNat_natCast]
  split
  · rename_i h; rw [h]; omega
  · rw [at_add, at_add, at_sc, at_sc, at_var, Int.mul_sub, Int.mul_neg, Int.mul_comm (atF g p), Int.mul_comm (p k)]; omega
theorem weakL_zeros : ∀ n : Nat, WeakL (repl n [C.t (.lit (.bool false)), C.t (.seq (some true) [])]) (cellsL cI (List.replicate n (false, [])))
  | 0 => .nil
  | n + 1 => by
    have ih := weakL_zeros n
    unfold repl at ih ⊢
    rw [List.replicate_succ, List.replicate_succ, List.flatten_cons, cellsL_cons]
    exact .cons .refl (.cons .seq ih)
theorem cI_sd {ys : List (Bool × List Nat)} {i : Nat} (hi : i < ys.length) {q : Bool × List Nat} : (cellsL cI ys).take (i * 2) ++ C.t (.lit (.bool q.1)) :: C.t (eN q.2) :: (cellsL cI ys).drop (i * 2 + 2) = cellsL cI (ys.set i q) := by
  have := cellsL_set (f := cI) (sz := 2) cI_len hi (y := q)
  rw [← this]; simp [setCs, cI]
theorem cI_clen {ys : List (Bool × List Nat)} : (cellsL cI ys).length = ys.length * 2 := cellsL_length cI_len
/-- A point with noughts behind it, one place put anew. -/
theorem ptX_set {x : List (Bool × List Nat)} {n k : Nat} {q : Int} (hk : k < n) (hn : x.length ≤ n) : ptX ((x ++ List.replicate (n - x.length) (false, [])).set k (decide (q < 0), dig q.natAbs)) = setP (ptX x) k q := by
  funext v
  show ptX _ v = if v = k then q else ptX x v
  unfold ptX
  rw [List.getElem?_set]
  by_cases e : v = k
  · subst e
    rw [if_pos rfl, if_pos (by simp; omega), if_pos rfl]
    exact iv_eI q
  · rw [if_neg (fun h => e h.symm), if_neg e]
    by_cases hv : v < x.length
    · rw [List.getElem?_append_left hv]
    · rw [List.getElem?_append_right (by omega), List.getElem?_eq_none (l := x) (by omega), List.getElem?_replicate]
      split
      · rename_i h
        split at h
        · cases h; decide
        · cases h
      · rfl
theorem set_copy {x : List (Bool × List Nat)} {n i : Nat} (hi : i < x.length) (hn : x.length ≤ n) : (x.take i ++ List.replicate (n - i) (false, [])).set i x[i] = x.take (i + 1) ++ List.replicate (n - (i + 1)) (false, []) := by
  rw [List.set_append, if_neg (by simp; omega), show i - (x.take i).length = 0 by simp; omega, show n - i = (n - (i + 1)) + 1 by omega, List.replicate_succ, List.set_cons_zero, take_snoc hi, List.append_assoc]; rfl
theorem tmod12' (v : Nat) : Int.tmod (v : Int) 12 = ((v % 12 : Nat) : Int) := rfl
set_option maxRecDepth 100000 in
theorem p_LinValues (a : LL) (ha : LLok a) (b : LL) (hb : LLok b) (s : Bool) (c : List Nat) (v : Int) (hv0 : 0 ≤ v) (hv1 : v < 256) (x : List (Bool × List Nat)) (hx : x.length ≤ maxLen) : PCall Try.prog 7 [gL a, gL b, gI s c, tI .u8 v, tLI x] (tB true) := by
  have hk := known6
  by_cases f1 : FL a
  · have q1 := tB_of (fewLin6 a ha) f1
    by_cases f2 : FL b
    · have q2 := tB_of (fewLin6 b hb) f2
      by_cases f3 : c.length ≤ 4
      · have f3' : ((4 : Int) < (c.length : Int)) = False := eq_false (by omega)
        by_cases f4 : FP x
        · have q4 := tB_of (fewPoint6 x hx) f4
          have A := f1.bl ha
          have B := f2.bl hb
          have xl := f4.2
          have xk : ∀ q ∈ x, q.2.length ≤ 4 := f4.1
          have bdA := Bd_lv A
          have bdB := Bd_lv B
          have wA := WF_lv a
          have wB := WF_lv b
          obtain ⟨w, rfl⟩ : ∃ w : Nat, v = w := ⟨v.toNat, by omega⟩
          have hn : w % 12 < 12 := Nat.mod_lt _ (by decide)
          have cv : IntKind.wrap .i64 ((w % 12 : Nat) : Int) = ((w % 12 : Nat) : Int) := wrap_i64 (by omega) (by omega)
          have cv1 : IntKind.wrap .i64 (((w % 12 : Nat) : Int) + 1) = ((w % 12 : Nat) : Int) + 1 := wrap_i64 (by omega) (by omega)
          have t12 := tmod12' w
          generalize w % 12 = k at *
          have lat : ∀ {f : Fm} {N L K : Nat}, Bd N L f → ∀ {y : List (Bool × List Nat)}, (∀ q ∈ y, q.2.length ≤ K) → lN (atF f (ptX y)) ≤ L + K + N := fun {f N L K} hb {y} hy => by
            have := lN_at hb (fun v => lN_ptX hy v) f.1.length
            rw [List.take_length] at this
            have h1 := hb.1
            unfold atF; omega
          have r1 := l_At a x (N := 8) (L := 4) (K := 4) (by decide) (by decide) (by decide) A (by omega) xk
          have r2 := l_At b x (N := 8) (L := 4) (K := 4) (by decide) (by decide) (by decide) B (by omega) xk
          have lp := lat bdA xk
          have lq := lat bdB xk
          have r3 := l_Add a b (N := 8) (L := 4) (by decide) (by decide) A B
          have ws := WF_add wA wB
          have bs := Bd_add bdA bdB
          have r4 := l_At_e (addF (lv a) (lv b)) x (K := 4) (by decide) (by decide) (by decide) ws bs (by omega) xk
          rw [at_add] at r4
          have r5 := i_Add_e (atF (lv a) (ptX x)) (atF (lv b) (ptX x)) (by omega) (by omega)
          have ls := lN_add (atF (lv a) (ptX x)) (atF (lv b) (ptX x))
          have e1 := tB_of (i_Equal_e (atF (lv a) (ptX x) + atF (lv b) (ptX x)) (atF (lv a) (ptX x) + atF (lv b) (ptX x)) (by omega) (by omega)) rfl
          have ln1 : lN (-1) ≤ 1 := lN_of (by decide)
          have r6 := l_Sub a b (N := 8) (L := 4) (by decide) (by decide) A B
          have wd := WF_add wA (WF_sc wB (-1))
          have bd := Bd_add bdA ((Bd_sc bdB (-1)).mono (Nat.le_refl _) (show 4 + lN (-1) ≤ 5 by omega))
          have r7 := l_At_e (addF (lv a) (scF (lv b) (-1))) x (K := 4) (by decide) (by decide) (by decide) wd bd (by omega) xk
          rw [at_add, at_sc, show atF (lv a) (ptX x) + atF (lv b) (ptX x) * -1 = atF (lv a) (ptX x) - atF (lv b) (ptX x) by omega] at r7
          have r8 := i_Sub_e (atF (lv a) (ptX x)) (atF (lv b) (ptX x)) (by omega) (by omega)
          have ld := lN_sub (atF (lv a) (ptX x)) (atF (lv b) (ptX x))
          have e2 := tB_of (i_Equal_e (atF (lv a) (ptX x) - atF (lv b) (ptX x)) (atF (lv a) (ptX x) - atF (lv b) (ptX x)) (by omega) (by omega)) rfl
          have lc := lN_iv s c
          have r9 := l_Scale a s c (N := 8) (L := 4) (by decide) (by decide) A (by omega)
          have wc := WF_sc wA (iv s c)
          have bc := (Bd_sc bdA (iv s c)).mono (Nat.le_refl _) (show 4 + lN (iv s c) ≤ 8 by omega)
          have r10 := l_At_e (scF (lv a) (iv s c)) x (K := 4) (by decide) (by decide) (by decide) wc bc (by omega) xk
          rw [at_sc] at r10
          have r11 := i_Mul (decide (atF (lv a) (ptX x) < 0)) (dig (atF (lv a) (ptX x)).natAbs) s c (by unfold lN at lp; omega) (by omega)
          rw [iv_eI] at r11
          have lm := lN_mul (atF (lv a) (ptX x)) (iv s c)
          have e3 := tB_of (i_Equal_e (atF (lv a) (ptX x) * iv s c) (atF (lv a) (ptX x) * iv s c) (by omega) (by omega)) rfl
          have r12 := l_Put a k b (by omega) (by omega) (N := 8) (L := 4) (by decide) (by decide) (by decide) A B
          have wp := WF_put (v := (k : Int)) wA wB
          have bp := Bd_put (v := (k : Int)) (by omega) bdA bdB
          have r13 := l_At_e (putF (lv a) k (lv b)) x (K := 4) (by decide) (by decide) (by decide) wp bp (by omega) xk
          rw [at_put wA] at r13
          have r16 := l_Is_e (putF (lv a) k (lv b)) (by decide) (by decide) wp bp
          have r17 := l_Is_e (addF (lv a) (lv b)) (by decide) (by decide) ws bs
          have r18 := l_Coef a k (N := 8) (L := 4) (by decide) (by decide) A
          have lco := lN_coI bdA (k : Int)
          have r19 := w_Sign_e (coI (lv a).1 k) (by omega)
          have r19 := i_Sign_e (coI (lv a).1 k) (by omega)
          have r20 := l_Same (encL (putF (lv a) k (lv b))) a (N := 17) (L := 12) (by decide) (by decide) (BL_enc bp) (A.mono (by decide) (by decide))
          rw [lv_enc wp, gL_encL] at r20
          -- the point put anew
          obtain ⟨n, hn'⟩ : ∃ n : Nat, n = max x.length (k + 1) := ⟨_, rfl⟩
          have hmax : (if ((k : Int) + 1 > (x.length : Int)) then ((k : Int) + 1) else (x.length : Int)) = (n : Int) := by split <;> omega
          have hnk : k < n := by omega
          have hnx : x.length ≤ n := by omega
          have hn20 : n ≤ 20 := by omega
          obtain ⟨Y, hY⟩ : ∃ Y, Y = (x ++ List.replicate (n - x.length) (false, ([] : List Nat))).set k (decide (atF (lv b) (ptX x) < 0), dig (atF (lv b) (ptX x)).natAbs) := ⟨_, rfl⟩
          have hYl : Y.length = n := by rw [hY]; simp; omega
          have hYp : ptX Y = setP (ptX x) k (atF (lv b) (ptX x)) := by rw [hY]; exact ptX_set hnk hnx
          have hYk : ∀ q ∈ Y, q.2.length ≤ 16 := by
            intro q hq
            rw [hY] at hq
            rcases List.mem_or_eq_of_mem_set hq with hq | rfl
            · rcases List.mem_append.1 hq with hq | hq
              · have := xk q hq; omega
              · rw [(List.mem_replicate.1 hq).2]; exact Nat.zero_le _
            · unfold lN at lq; show (dig _).length ≤ 16; omega
          have r14 := l_At a Y (N := 8) (L := 4) (K := 16) (by decide) (by decide) (by decide) A (by omega) hYk
          have lY := lat bdA hYk
          rw [hYp] at r14 lY
          have e4 := tB_of (i_Equal_e (atF (lv a) (setP (ptX x) k (atF (lv b) (ptX x)))) (atF (lv a) (setP (ptX x) k (atF (lv b) (ptX x)))) (by omega) (by omega)) rfl
          have hput0 : coI (lv a).1 k = 0 → putF (lv a) k (lv b) = lv a := fun h => if_pos h
          generalize atF (lv a) (setP (ptX x) k (atF (lv b) (ptX x))) = z9 at *
          generalize atF (lv a) (ptX x) = z1 at *
          generalize atF (lv b) (ptX x) = z2 at *
          clear ws bs wd bd wc bc wp bp lat bdA bdB
          refine pcall_of_wpA mixed Try.call7 Try.func7 rfl Try.ntmps7 Try.results7 (by simp) (by decide) ?_
          simp only [go_sem]
          ((repeat (refine regA_by 0 rfl ?_; simp only [go_sem, f3'])); refine call_pure (hk) rfl ?_; simp only [go_sem, f3']; (repeat (refine regA_by 0 rfl ?_; simp only [go_sem, f3'])); refine call_pure (q1) rfl ?_; simp only [go_sem, f3']; (repeat (refine regA_by 0 rfl ?_; simp only [go_sem, f3'])); refine call_pure (q2) rfl ?_; simp only [go_sem, f3']; (repeat (refine regA_by 0 rfl ?_; simp only [go_sem, f3'])); refine call_pure (q4) rfl ?_; simp only [go_sem, f3']; (repeat (refine regA_by 0 rfl ?_; simp only [go_sem, f3'])))
          simp only [go_sem, t12, cv]
          ((repeat (refine regA_by 0 rfl ?_; simp only [go_sem])); refine call_pure (r1) rfl ?_; simp only [go_sem]; (repeat (refine regA_by 0 rfl ?_; simp only [go_sem])); refine call_pure (r2) rfl ?_; simp only [go_sem]; (repeat (refine regA_by 0 rfl ?_; simp only [go_sem])); refine call_pure (r3) rfl ?_; simp only [go_sem]; (repeat (refine regA_by 0 rfl ?_; simp only [go_sem])); refine call_pure (r4) rfl ?_; simp only [go_sem]; (repeat (refine regA_by 0 rfl ?_; simp only [go_sem])); refine call_pure (r5) rfl ?_; simp only [go_sem]; (repeat (refine regA_by 0 rfl ?_; simp only [go_sem])); refine call_pure (e1) rfl ?_; simp only [go_sem]; (repeat (refine regA_by 0 rfl ?_; simp only [go_sem])); refine call_pure (r6) rfl ?_; simp only [go_sem]; (repeat (refine regA_by 0 rfl ?_; simp only [go_sem])); refine call_pure (r7) rfl ?_; simp only [go_sem]; (repeat (refine regA_by 0 rfl ?_; simp only [go_sem])); refine call_pure (r8) rfl ?_; simp only [go_sem]; (repeat (refine regA_by 0 rfl ?_; simp only [go_sem])); refine call_pure (e2) rfl ?_; simp only [go_sem]; (repeat (refine regA_by 0 rfl ?_; simp only [go_sem])); refine call_pure (r9) rfl ?_; simp only [go_sem]; (repeat (refine regA_by 0 rfl ?_; simp only [go_sem])); refine call_pure (r10) rfl ?_; simp only [go_sem]; (repeat (refine regA_by 0 rfl ?_; simp only [go_sem])); refine call_pure (r11) rfl ?_; simp only [go_sem]; (repeat (refine regA_by 0 rfl ?_; simp only [go_sem])); refine call_pure (e3) rfl ?_; simp only [go_sem]; (repeat (refine regA_by 0 rfl ?_; simp only [go_sem])))
          simp only [go_sem, cv1]
          refine opA_max rfl (by simp only [go_sem] <;> rfl) (by simp only [go_sem] <;> rfl) (Nat.le_refl _) ?_
          simp only [go_sem, hmax]
          (repeat (refine And.intro (by omega) ?_))
          refine loop_inv (fun i : Nat => stL 137 [(4, aLI x), (5, .one (.ptr 5 0)), (6, .one (.ptr 6 0)), (11, litI .i64 k), (13, .one (.ptr 13 0)), (14, .one (.vec 86 2 0 n)), (15, litI .i64 i)]
              [(5, (cL a).map .t), (6, (cL b).map .t), (13, [.t (.lit (.bool (decide (z2 < 0)))), .t (eN (dig z2.natAbs))]), (86, cellsL cI (x.take i ++ List.replicate (n - i) (false, [])))]) (fun i => i ≤ x.length) (fun i => x.length - i) 0 ?_ (Nat.zero_le _) ?_
          · rw [List.take_zero, Nat.sub_zero, List.nil_append]
            refine GStep.trans (gstep_weakH 86 (cs := repl n [C.t (.lit (.bool false)), C.t (.seq (some true) [])]) (by simp only [go_sem] <;> rfl) (weakL_zeros n)) ?_
            (refine gstep_list rfl ?_ ?_ ?_ ?_ <;> (try simp only [go_sem, tail_one, cellsL_refs]) <;> (try simp))
          · intro i hi
            simp only [go_sem]
            refine CondR_if (fun hlt => ?_) (fun hge => ?_)
            · have hlt' : i < x.length := by omega
              have hel : elemD cI x i = cI x[i] := elemD_lt hlt'
              have hys : (x.take i ++ List.replicate (n - i) (false, ([] : List Nat))).length = n := by simp; omega
              have hnx := set_copy (x := x) (n := n) hlt' hnx
              generalize x.take i ++ List.replicate (n - i) (false, ([] : List Nat)) = ys at *
              generalize x[i] = q at *
              have hin : ((i : Int) < (n : Int)) = True := eq_true (by omega)
              simp only [go_sem, hel, hlt, hin, cI, cI_clen]
              (repeat (refine And.intro (by omega) ?_))
              refine ⟨i + 1, hlt', (by show x.length - (i + 1) < x.length - i; omega), ?_⟩
              have hsd : (cellsL cI ys).take (i * 2) ++ C.t (.lit (.bool q.1)) :: C.t (eN q.2) :: (cellsL cI ys).drop (i * 2 + 2) = cellsL cI (x.take (i + 1) ++ List.replicate (n - (i + 1)) (false, [])) := by rw [← hnx]; exact cI_sd (ys := ys) (i := i) (by omega) (q := q)
              (refine gstep_list rfl ?_ ?_ ?_ ?_ <;> (try simp only [go_sem, tail_one, cellsL_refs, hsd, wrap_i64 (n := (i : Int) + 1) (by omega) (by omega)]) <;> (try simp))
            · obtain rfl : i = x.length := by omega
              rw [List.take_length]
              have hys : (x ++ List.replicate (n - x.length) (false, ([] : List Nat))).length = n := by simp; omega
              generalize x ++ List.replicate (n - x.length) (false, ([] : List Nat)) = ys at *
              have hkn : ((k : Int) < (n : Int)) = True := eq_true (by omega)
              have hsd : (cellsL cI ys).take (k * 2) ++ C.t (.lit (.bool (decide (z2 < 0)))) :: C.t (eN (dig z2.natAbs)) :: (cellsL cI ys).drop (k * 2 + 2) = cellsL cI Y := by rw [hY]; exact cI_sd (ys := ys) (i := k) (by omega) (q := (decide (z2 < 0), dig z2.natAbs))
              simp only [go_sem, hkn, cI_clen, hsd]
              (repeat (refine And.intro (by omega) ?_))
              refine call_pure r12 rfl ?_
              simp only [go_sem, hsd]
              refine regA_g (gstep_frz (b := 86) (sz := 2) (len := n) (x := eL cI Y) (cs := cellsL cI Y) (by simp only [go_sem, hsd] <;> rfl) (by rw [← hYl]; exact treeOf_L cI_len)) ?_
              refine regA_by 0 rfl ?_
              by_cases hz : coI (lv a).1 k = 0
              · have e0 : (0 : Int).sign = 0 := rfl
                rw [hz] at r18 r19
                rw [e0] at r19
                have r20 := tB_of r20 (hput0 hz)
                simp only [go_sem, hsd]
                ((repeat (refine regA_by 0 rfl ?_; simp only [go_sem])); refine call_pure (r13) rfl ?_; simp only [go_sem]; (repeat (refine regA_by 0 rfl ?_; simp only [go_sem])); refine call_pure (r14) rfl ?_; simp only [go_sem]; (repeat (refine regA_by 0 rfl ?_; simp only [go_sem])); refine call_pure (e4) rfl ?_; simp only [go_sem]; (repeat (refine regA_by 0 rfl ?_; simp only [go_sem])); refine call_pure (r16) rfl ?_; simp only [go_sem]; (repeat (refine regA_by 0 rfl ?_; simp only [go_sem])); refine call_pure (r3) rfl ?_; simp only [go_sem]; (repeat (refine regA_by 0 rfl ?_; simp only [go_sem])); refine call_pure (r17) rfl ?_; simp only [go_sem]; (repeat (refine regA_by 0 rfl ?_; simp only [go_sem])); refine call_pure (r18) rfl ?_; simp only [go_sem]; (repeat (refine regA_by 0 rfl ?_; simp only [go_sem])); refine call_pure (r19) rfl ?_; simp only [go_sem]; (repeat (refine regA_by 0 rfl ?_; simp only [go_sem])); refine call_pure (r20) rfl ?_; simp only [go_sem]; (repeat (refine regA_by 0 rfl ?_; simp only [go_sem])))
              · have hne := sign_ne hz
                generalize coI (lv a).1 k = z5 at *
                simp only [go_sem, hsd]
                ((repeat (refine regA_by 0 rfl ?_; simp only [go_sem, hne])); refine call_pure (r13) rfl ?_; simp only [go_sem, hne]; (repeat (refine regA_by 0 rfl ?_; simp only [go_sem, hne])); refine call_pure (r14) rfl ?_; simp only [go_sem, hne]; (repeat (refine regA_by 0 rfl ?_; simp only [go_sem, hne])); refine call_pure (e4) rfl ?_; simp only [go_sem, hne]; (repeat (refine regA_by 0 rfl ?_; simp only [go_sem, hne])); refine call_pure (r16) rfl ?_; simp only [go_sem, hne]; (repeat (refine regA_by 0 rfl ?_; simp only [go_sem, hne])); refine call_pure (r3) rfl ?_; simp only [go_sem, hne]; (repeat (refine regA_by 0 rfl ?_; simp only [go_sem, hne])); refine call_pure (r17) rfl ?_; simp only [go_sem, hne]; (repeat (refine regA_by 0 rfl ?_; simp only [go_sem, hne])); refine call_pure (r18) rfl ?_; simp only [go_sem, hne]; (repeat (refine regA_by 0 rfl ?_; simp only [go_sem, hne])); refine call_pure (r19) rfl ?_; simp only [go_sem, hne]; (repeat (refine regA_by 0 rfl ?_; simp only [go_sem, hne])))
        · have q4 := tB_not (fewPoint6 x hx) f4
          refine pcall_of_wpA mixed Try.call7 Try.func7 rfl Try.ntmps7 Try.results7 (by simp) (by decide) ?_
          simp only [go_sem]
          ((repeat (refine regA_by 0 rfl ?_; simp only [go_sem, f3'])); refine call_pure (hk) rfl ?_; simp only [go_sem, f3']; (repeat (refine regA_by 0 rfl ?_; simp only [go_sem, f3'])); refine call_pure (q1) rfl ?_; simp only [go_sem, f3']; (repeat (refine regA_by 0 rfl ?_; simp only [go_sem, f3'])); refine call_pure (q2) rfl ?_; simp only [go_sem, f3']; (repeat (refine regA_by 0 rfl ?_; simp only [go_sem, f3'])); refine call_pure (q4) rfl ?_; simp only [go_sem, f3']; (repeat (refine regA_by 0 rfl ?_; simp only [go_sem, f3'])))
      · have f3' : ((4 : Int) < (c.length : Int)) = True := eq_true (by omega)
        refine pcall_of_wpA mixed Try.call7 Try.func7 rfl Try.ntmps7 Try.results7 (by simp) (by decide) ?_
        simp only [go_sem]
        ((repeat (refine regA_by 0 rfl ?_; simp only [go_sem, f3'])); refine call_pure (hk) rfl ?_; simp only [go_sem, f3']; (repeat (refine regA_by 0 rfl ?_; simp only [go_sem, f3'])); refine call_pure (q1) rfl ?_; simp only [go_sem, f3']; (repeat (refine regA_by 0 rfl ?_; simp only [go_sem, f3'])); refine call_pure (q2) rfl ?_; simp only [go_sem, f3']; (repeat (refine regA_by 0 rfl ?_; simp only [go_sem, f3'])))
    · have q2 := tB_not (fewLin6 b hb) f2
      refine pcall_of_wpA mixed Try.call7 Try.func7 rfl Try.ntmps7 Try.results7 (by simp) (by decide) ?_
      simp only [go_sem]
      ((repeat (refine regA_by 0 rfl ?_; simp only [go_sem])); refine call_pure (hk) rfl ?_; simp only [go_sem]; (repeat (refine regA_by 0 rfl ?_; simp only [go_sem])); refine call_pure (q1) rfl ?_; simp only [go_sem]; (repeat (refine regA_by 0 rfl ?_; simp only [go_sem])); refine call_pure (q2) rfl ?_; simp only [go_sem]; (repeat (refine regA_by 0 rfl ?_; simp only [go_sem])))
  · have q1 := tB_not (fewLin6 a ha) f1
    refine pcall_of_wpA mixed Try.call7 Try.func7 rfl Try.ntmps7 Try.results7 (by simp) (by decide) ?_
    simp only [go_sem]
    ((repeat (refine regA_by 0 rfl ?_; simp only [go_sem])); refine call_pure (hk) rfl ?_; simp only [go_sem]; (repeat (refine regA_by 0 rfl ?_; simp only [go_sem])); refine call_pure (q1) rfl ?_; simp only [go_sem]; (repeat (refine regA_by 0 rfl ?_; simp only [go_sem])))
end Go.Proofs.Ytpnmoecjhannnaa
