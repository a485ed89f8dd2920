/- At every input the call answers true and leaves its arguments as they were; no conditions. -/
import Derived.Test.YtjmbhknhiakkpaaGreatUa
import Derived.Test.YtjmbhknhiakkpaaGreatQa
import Derived.Test.YtjmbhknhiakkpaaGreatNy
import Derived.Test.YtjmbhknhiakkpaaGreatMi
set_option linter.unusedSimpArgs false
set_option linter.unusedVariables false
namespace Go.Proofs.YtjmbhknhiakkpaaGreat
open Go Go.Abs
set_option maxHeartbeats 32000000
theorem mk_or {d : Nat} {M M' : MX} {e : List (Nat × List C)} (hn : M'.n = M.n) (hR : M'.R = M.R) : (fun t => (lookH (mkL d M') t).or (lookH (mkE d M e) t)) = lookH (mkE d M' e) := by
  funext t
  unfold mkE
  rw [lookH_app, lookH_app]
  cases h : lookH (mkL d M') t with
  | some cs => rfl
  | none =>
    have hk : lookH (mkL d M) t = none := by
      rw [lookH_dom, mk_keys] at h ⊢
      unfold MX.N at *; rw [hn, hR] at h; exact h
    rw [hk]; rfl
/-- A call that changes a maker, the walk's own. -/
theorem call_mkE {m : Nat} {F : FuncId} {ys args : List AV} {M M' : MX} {σ : St} {K : AV → St → Prop} {r : AV} {e : List (Nat × List C)} (d : Nat) (hm : m = 1 ∨ m = 2) (h : MCall Tryz.prog F args (xM M) r (xM M')) (hs : M.Ok) (hn : M'.n = M.n) (hR : M'.R = M.R) (has : ys = args.map (thA (fun k => d + k))) (hargs : ∀ x ∈ args, inA (xM M) x)
    (hσ : σ.H = lookH (mkE d M e)) (hK : K (thA (fun k => d + k) r) (σ.withH (lookH (mkE d M' e)))) : CallA Tryz.prog m F ys σ K := by
  refine call_mk d hm h hs hn hR has hargs (by rw [hσ, AtM_self]; trivial) ?_
  rw [hσ, mk_or hn hR]; exact hK
theorem at_or {d : Nat} {M : MX} {H : Heap} : AtM (fun t => (lookH (mkL d M) t).or (H t)) d M := fun k cs h => by show (lookH _ _).or _ = _; rw [h]; rfl
section
variable {M : MX} {S : HX} {r k : Nat}
theorem rd_least {K : Nat} (hK : K ≤ 10000000000) (hM : M.Ok) (hdim : M.N < 90000) (hr : r < M.R) (hk : k ≤ M.n) (hB : ∀ c, c < M.n → lN (M.g r c) ≤ K) {d : Nat} {H : Heap} (hH : AtM H d M) :
    RdC Tryz.prog 83 [.one (.ptr d 0), litI .i64 r, litI .i64 k] H (.tup [litI .i64 (argH (hdM M r k).1), litI .i64 (hdM M r k).2]) :=
  rd_mk d (h_least M r k hK hM hdim hr hk hB) hM rfl (List.forall_mem_cons.2 ⟨mk_p, List.forall_mem_cons.2 ⟨trivial, List.forall_mem_cons.2 ⟨trivial, fun x hx => by cases hx⟩⟩⟩) hH
end
theorem args3 {M : MX} {a b : Int} : ∀ x ∈ [AV.one (.ptr PIN 0), litI .i64 a, litI .i64 b], inA (xM M) x := List.forall_mem_cons.2 ⟨mk_p, List.forall_mem_cons.2 ⟨trivial, List.forall_mem_cons.2 ⟨trivial, fun x hx => by cases hx⟩⟩⟩
theorem args2 {M : MX} {a : Int} : ∀ x ∈ [AV.one (.ptr PIN 0), litI .i64 a], inA (xM M) x := List.forall_mem_cons.2 ⟨mk_p, List.forall_mem_cons.2 ⟨trivial, fun x hx => by cases hx⟩⟩
theorem args4 {M : MX} {a b z : Int} : ∀ x ∈ [AV.one (.ptr PIN 0), litI .i64 a, litI .i64 b, .agg ((cJ z).map .t)], inA (xM M) x := List.forall_mem_cons.2 ⟨mk_p, List.forall_mem_cons.2 ⟨trivial, List.forall_mem_cons.2 ⟨trivial, List.forall_mem_cons.2 ⟨(fun c hc => by obtain ⟨t, _, rfl⟩ := List.mem_map.1 hc; trivial), fun x hx => by cases hx⟩⟩⟩⟩
theorem lstH_snd {f : Nat → Int} {k m : Nat} : (lstH f k m).2 = 0 ↔ (lstH f k m).1 = none := by
  have := lstH_spec f k m
  revert this
  cases (lstH f k m).1 with
  | none => intro h; exact ⟨fun _ => rfl, fun _ => h.1⟩
  | some p => intro h; exact ⟨fun h0 => by omega, fun h0 => by cases h0⟩
set_option maxRecDepth 100000 in
theorem h_row (M : MX) (S : HX) (r k : Nat) {K T : Nat} (hK : K ≤ 4000000000) (hr : Rep M S) (hdim : M.N < 90000) (hR : r < M.R) (hk : k ≤ M.n) (hL : LBrow K S r k T) :
    MCall Tryz.prog 56 [.one (.ptr PIN 0), litI .i64 r, litI .i64 k] (xM M) (litB (endE (itE S r k T) r k).2) (xM (endM (itM M r k T) r k)) := by
  have hit := fun t => rep_it hr hR hk t
  have hdimN : ∀ M' : MX, M'.n = M.n → M'.R = M.R → M'.N < 90000 := fun M' h1 h2 => by unfold MX.N at *; omega
  obtain ⟨repT, nT, RT⟩ := hit T
  obtain ⟨repF, e2F⟩ := rep_end repT (r := r) (k := k) (by omega) (by omega)
  have dF := endE_dim (S := itE S r k T) (r := r) (k := k)
  have nF : (endM (itM M r k T) r k).n = M.n := by rw [repF.en, dF.1, ← repT.en, nT]
  have RF : (endM (itM M r k T) r k).R = M.R := by rw [repF.eR, dF.2, ← repT.eR, RT]
  refine mcall_of_wpX mixed Tryz.call56 Tryz.func56 rfl Tryz.ntmps56 Tryz.results56 (by simp) (by decide) ?_ ?_ ?_ ?_ ?_
  · exact mk_low _
  · exact mk_dom nF RF
  · exact mk_cl _ repF.ok
  · trivial
  · have xw : xM M = lookH (mkE 1000000 (itM M r k 0) []) := rfl
    rw [xw]
    simp only [go_sem, PIN, mkLo]
    refine loop_inv (fun t : Nat => stL 122 [(0, .one (.ptr 1000000 0)), (1, litI .i64 r), (2, litI .i64 k)] (mkE 1000000 (itM M r k t) [])) (fun t => t ≤ T) (fun t => T - t) 0 ?_ (Nat.zero_le _) ?_
    · have hrf : ∀ D e, refsH (mkD 1000000 M D) (mkE 1000000 M e) = refsH (mkD 1000000 M D) e := fun D e => refsH_mk hr.ok
      show Abs.GStep _ (stL _ _ (mkE 1000000 M []))
      (refine gstep_list rfl ?_ ?_ ?_ ?_ <;> (try simp only [go_sem, tail_one, hrf]) <;> (try simp only [true_or, or_true, or_false, beq_self_eq_true, and_self, true_and, and_true]))
      show AtM (lookH (mkE 1000000 M [])) 1000000 M
      rw [AtM_self]; trivial
    · intro t ht
      obtain ⟨rep1, n1, R1⟩ := hit t
      have lb1 := (hL.it t ht)
      obtain ⟨lbA, lbB⟩ := lb1.all rep1
      have hst := rep_st rep1 (r := r) (k := k) (by omega) (by omega)
      have itS : itM M r k (t + 1) = match stM (itM M r k t) r k with | some S' => S' | none => itM M r k t := rfl
      have hdS := rep_hd rep1 (r := r) (k := k) (by omega) (by omega)
      have enS : (itE S r k t).n = M.n := by rw [← rep1.en, n1]
      generalize hM1 : itM M r k t = M1 at rep1 n1 R1 lbA lbB hst itS hdS ⊢
      have rd := rd_least (r := r) (k := k) (K := K) (by omega) rep1.ok (hdimN _ n1 R1) (by omega) (by omega) (fun c hc => lbA r c (by omega) hc) (d := 1000000) (H := lookH (mkE 1000000 M1 [])) (by rw [AtM_self]; trivial)
      have hsnd : (hdM M1 r k).2 = 0 ↔ (hdM M1 r k).1 = none := lstH_snd
      have hle : (hdM M1 r k).2 ≤ M1.n - k := lstH_le _
      have hstT : stM M1 r k = none → t = T := fun h => by
        refine Classical.byContradiction fun hne => ?_
        rw [h] at hst
        cases hse : stE (itE S r k t) r k with
        | none => exact hL.go t (by omega) hse
        | some S' => rw [hse] at hst; exact hst
      have hstS : stM M1 r k ≠ none → t < T := fun h => by
        refine Classical.byContradiction fun hne => ?_
        obtain rfl : t = T := by omega
        rw [hL.stop] at hst
        cases hse : stM M1 r k with
        | none => exact h hse
        | some S' => rw [hse] at hst; exact hst
      simp only [go_sem]
      refine call_rd2 (.inr rfl) rd ?_
      cases hp : (hdM M1 r k).1 with
      | none =>
        have h0 : (((hdM M1 r k).2 : Int) = 0) = True := eq_true (by have := hsnd.2 hp; omega)
        have hsn : stM M1 r k = none := by unfold stM; rw [hp]
        obtain rfl := hstT hsn
        simp only [go_sem, h0]
        refine xret1 (.inr rfl) trivial ?_ ?_
        · rw [e2F, hM1, hp]; rfl
        · have : endM M1 r k = M1 := by unfold endM; rw [hp]
          rw [hM1, this]
          exact fun _ _ => rfl
      | some p =>
        obtain ⟨hkp, hpn⟩ := hd_lt hp
        have hkn : k < M1.n := by omega
        have h0 : (((hdM M1 r k).2 : Int) = 0) = False := eq_false (fun h => by have := hsnd.1 (by omega); rw [hp] at this; cases this)
        simp only [go_sem, h0, hp]
        have hdp := swp_dim (M := M1) (p := p) (k := k)
        have rep2 := rep1.swp (p := p) (k := k) hpn hkn
        have lb2 : LB K ((itE S r k t).swap p k) := by
          by_cases c : t < T
          · exact hL.red t p 0 c (by rw [← hdS]; exact hp) (by have := rep1.en; have := hr.en; omega)
          · obtain rfl : t = T := by omega
            exact hL.piv p (by rw [← hdS]; exact hp)
        have n2 : (M1.swp p k).n = M.n := hdp.1.trans n1
        have R2 : (M1.swp p k).R = M.R := hdp.2.trans R1
        have hstp : stM M1 r k = if (hdM M1 r k).2 = 1 then none else some (redM (M1.swp p k) r k (M1.n - (k + 1))) := by unfold stM; rw [hp]
        have hexit : (hdM M1 r k).2 = 1 → t = T ∧ endM (itM M r k T) r k = lefM (sgnM (M1.swp p k) r k) r k k := fun h => by
          have ht := hstT (by rw [hstp, if_pos h])
          refine ⟨ht, ?_⟩
          rw [← ht, hM1]; unfold endM; rw [hp]
        have hgo : (hdM M1 r k).2 ≠ 1 → t < T ∧ itM M r k (t + 1) = redM (M1.swp p k) r k (M.n - (k + 1)) := fun h => by
          rw [if_neg h] at hstp
          refine ⟨hstS (by rw [hstp]; simp), ?_⟩
          rw [itS, hstp, n1]
        have hpS : (hdE (itE S r k t) r k).1 = some p := by rw [← hdS]; exact hp
        generalize hcn : (hdM M1 r k).2 = cn at *
        refine CondR_if (fun hne => ?_) (fun heq => ?_)
        focus
          have hpk : p ≠ k := by omega
          have e2 : M1.swp p k = M1.swap p k := if_neg hpk
          simp only [go_sem]
          refine call_mkE (M := M1) (M' := M1.swp p k) 1000000 (.inr rfl) (by rw [e2]; exact h_swap M1 p k rep1.ok (hdimN _ n1 R1) hpn hkn hpk) rep1.ok hdp.1 hdp.2 rfl args3 rfl ?_
          simp only [go_sem]
        rotate_left
        focus
          have hpk : p = k := by omega
          have e2 : M1.swp p k = M1 := if_pos hpk
          simp only [go_sem]
          rw [← e2]
        all_goals (
          generalize hM2 : M1.swp p k = M2 at rep2 n2 R2 hexit hgo ⊢
          have hkn2 : k < M2.n := by omega
          refine CondR_if (fun hc1 => ?_) (fun hc1 => ?_)
          · obtain ⟨rfl, hend⟩ := hexit (by omega)
            obtain ⟨MF, hMF⟩ : ∃ MF, MF = lefM (sgnM M2 r k) r k k := ⟨_, rfl⟩
            rw [hend, ← hMF]
            have hdim0 : M.R + M.n + M.n < 90000 := hdim
            have hkI : ((k : Int) < (M.n : Int)) = True := eq_true (by omega)
            have hrI : ((r : Int) < (M.R : Int)) = True := eq_true (by omega)
            have a3 : (rowsC 1000100 2 M.n M.R).drop r = .vec (1000100 + r) 2 0 M.n :: (rowsC 1000100 2 M.n M.R).drop (r + 1) := rowsC_at hR
            have hrl := rowsC_len (b := 1000100) (sz := 2) (len := M.n) (n := M.R)
            have kf : ∀ e, lookH (mkE 1000000 M2 e) (1000100 + r) = some (cellsL cJ (fnG M.n (M2.g r))) := fun e => by
              have := mkKf (b := 1000000) (M := M2) (e := e) (i := r) (by unfold MX.N; omega)
              rw [n2] at this; exact this
            have c2 := cG_at (f := cJ) (sz := 2) (g := M2.g r) cJ_len (show k < M.n by omega)
            have cl := fun g => cJ_clen (n := M.n) (g := g)
            obtain ⟨lbA2, lbB2⟩ := lb2.all rep2
            have b2 := lbA2 r k (by omega) (by omega)
            have o1 := w_Sign_e (M2.g r k) (by omega)
            have hsg : (M2.g r k).sign < 0 ↔ M2.g r k < 0 := Int.sign_neg_iff
            have dM3 := sgnM_dim (M := M2) (r := r) (k := k)
            have rep3 : Rep (sgnM M2 r k) (pivH (itE S r k t) r k p) := rep_sgn (r := r) (k := k) rep2 (by omega) (by omega)
            simp only [go_sem, n2, R2, a3, hrI, kf, c2, hkI, cl, hrl, mkLo]
            (repeat (refine And.intro (by omega) ?_))
            ((repeat (refine regA_by 0 rfl ?_; simp only [go_sem, n2, R2, a3, hrI, kf, c2, hkI, cl, hrl, mkLo])); refine call_pure (o1) rfl ?_; simp only [go_sem, n2, R2, a3, hrI, kf, c2, hkI, cl, hrl, mkLo]; (repeat (refine regA_by 0 rfl ?_; simp only [go_sem, n2, R2, a3, hrI, kf, c2, hkI, cl, hrl, mkLo])))
            refine CondR_if (fun hng => ?_) (fun hng => ?_)
            focus
              have e3 : sgnM M2 r k = M2.turn k := if_pos (hsg.1 hng)
              simp only [go_sem]
              refine call_mkE (M := M2) (M' := sgnM M2 r k) 1000000 (.inr rfl) (by rw [e3]; exact h_turn M2 k (K := K) (by omega) rep2.ok (hdimN _ n2 R2) hkn2 lbA2 lbB2) rep2.ok dM3.1 dM3.2 rfl args2 rfl ?_
              simp only [go_sem]
            rotate_left
            focus
              have e3 : sgnM M2 r k = M2 := if_neg (fun h => hng (hsg.2 h))
              simp only [go_sem]
              rw [← e3]
            all_goals (
              generalize sgnM M2 r k = M3 at rep3 dM3 hMF ⊢
              have n3 : M3.n = M.n := dM3.1.trans n2
              have R3 : M3.R = M.R := dM3.2.trans R2
              refine loop_inv (fun i : Nat => stL 122 [(0, .one (.ptr 1000000 0)), (1, litI .i64 r), (2, litI .i64 k), (88, litI .i64 k), (89, litI .i64 i)] (mkE 1000000 (lefM M3 r k i) [])) (fun i => i ≤ k) (fun i => k - i) 0 ?_ (Nat.zero_le _) ?_
              · show Abs.GStep _ (stL _ _ (mkE 1000000 M3 []))
                have hrf : ∀ D e, refsH (mkD 1000000 M3 D) (mkE 1000000 M3 e) = refsH (mkD 1000000 M3 D) e := fun D e => refsH_mk rep3.ok
                (refine gstep_list rfl ?_ ?_ ?_ ?_ <;> (try simp only [go_sem, tail_one, hrf]) <;> (try simp only [true_or, or_true, or_false, beq_self_eq_true, and_self, true_and, and_true]))
              · intro i hi
                have rep4 := rep_lef (r := r) (k := k) rep3 (by omega) (by omega) i hi
                have d4 := lefM_dim (M := M3) (r := r) (k := k) i
                have hnx4 : lefM M3 r k (i + 1) = (lefM M3 r k i).less k i (Int.fdiv ((lefM M3 r k i).g r i) ((lefM M3 r k i).g r k)) := rfl
                have lb4 := hL.lef p i hpS hi
                obtain ⟨lbA4, lbB4⟩ := lb4.all rep4
                have hrfn : i < k → ∀ D e, refsH (mkD 1000000 (lefM M3 r k (i + 1)) D) (mkE 1000000 (lefM M3 r k (i + 1)) e) = refsH (mkD 1000000 (lefM M3 r k (i + 1)) D) e := fun h D e =>
                  refsH_mk (rep_lef (r := r) (k := k) rep3 (by omega) (by omega) (i + 1) (by omega)).ok
                generalize hM4 : lefM M3 r k i = M4 at rep4 d4 hnx4 lbA4 lbB4 ⊢
                have n4 : M4.n = M.n := d4.1.trans n3
                have R4 : M4.R = M.R := d4.2.trans R3
                simp only [go_sem]
                refine CondR_if (fun hlt => ?_) (fun hge => ?_)
                · have hlt' : i < M.n := by omega
                  have hiI : ((i : Int) < (M.n : Int)) = True := eq_true (by omega)
                  have kf : ∀ e, lookH (mkE 1000000 M4 e) (1000100 + r) = some (cellsL cJ (fnG M.n (M4.g r))) := fun e => by
                    have := mkKf (b := 1000000) (M := M4) (e := e) (i := r) (by unfold MX.N; omega)
                    rw [n4] at this; exact this
                  have c1 := cG_at (f := cJ) (sz := 2) (g := M4.g r) cJ_len hlt'
                  have c2 := cG_at (f := cJ) (sz := 2) (g := M4.g r) cJ_len (show k < M.n by omega)
                  have b1 := lbA4 r i (by omega) (by omega)
                  have b2 := lbA4 r k (by omega) (by omega)
                  have o1 := w_Floor_e (M4.g r i) (M4.g r k) (by omega) (by omega)
                  have hz := lN_fdiv (M4.g r i) (M4.g r k)
                  generalize Int.fdiv (M4.g r i) (M4.g r k) = z at *
                  simp only [go_sem]
                  refine regA_by 0 rfl ?_
                  simp only [go_sem, n4, R4, a3, hrI, kf, c1, c2, hiI, hkI, cl, hrl, mkLo]
                  (repeat (refine And.intro (by omega) ?_))
                  ((repeat (refine regA_by 0 rfl ?_; simp only [go_sem, n4, R4, a3, hrI, kf, c1, c2, hiI, hkI, cl, hrl, mkLo])); refine call_pure (o1) rfl ?_; simp only [go_sem, n4, R4, a3, hrI, kf, c1, c2, hiI, hkI, cl, hrl, mkLo]; (repeat (refine regA_by 0 rfl ?_; simp only [go_sem, n4, R4, a3, hrI, kf, c1, c2, hiI, hkI, cl, hrl, mkLo])))
                  refine call_mk (M := M4) (M' := M4.less k i z) 1000000 (.inr rfl) (h_less M4 k i z (K := K + 1) (by omega) rep4.ok (hdimN _ n4 R4) (by omega) (by omega) (fun h => by have := rep4.inj _ _ (by omega) (by omega) h; omega) (by omega) (fun a b h1 h2 => by have := lbA4 a b h1 h2; omega) (fun a b h1 h2 => by have := lbB4 a b h1 h2; omega)) rep4.ok rfl rfl rfl args4 (by simp only [go_sem, mkLo, AtM_upd]) ?_
                  simp only [go_sem, mkLo, n4, R4]
                  refine ⟨i + 1, (by show i + 1 ≤ k; omega), (by show k - (i + 1) < k - i; omega), ?_⟩
                  have hrf := hrfn (by omega)
                  (refine gstep_list rfl ?_ ?_ ?_ ?_ <;> (try simp only [go_sem, tail_one, hrf, wrap_i64 (n := (i : Int) + 1) (by omega) (by omega)]) <;> (try simp only [true_or, or_true, or_false, beq_self_eq_true, and_self, true_and, and_true]))
                  rw [hnx4]; exact at_or
                · obtain rfl : i = k := by omega
                  simp only [go_sem]
                  refine xret1 (.inr rfl) trivial ?_ ?_
                  · rw [e2F, hM1, hp]; rfl
                  · rw [hMF, hM4]
                    exact fun _ _ => rfl)
          · obtain ⟨htT, hnx⟩ := hgo (by omega)
            simp only [go_sem]
            have hw0 : IntKind.i64.wrap ((k : Int) + 1) = ((k + 1 : Nat) : Int) := by have : MX.N M < 90000 := hdim; unfold MX.N at this; rw [wrap_i64 (by omega) (by omega)]; omega
            refine loop_inv (fun m : Nat => stL 122 [(0, .one (.ptr 1000000 0)), (1, litI .i64 r), (2, litI .i64 k), (9, litI .i64 (k + 1 + m : Nat))] (mkE 1000000 (redM M2 r k m) [])) (fun m => k + 1 + m ≤ M.n) (fun m => M.n - (k + 1 + m)) 0 ?_ (by show k + 1 + 0 ≤ M.n; omega) ?_
            · show Abs.GStep _ (stL _ _ (mkE 1000000 M2 []))
              have hrf : ∀ D e, refsH (mkD 1000000 M2 D) (mkE 1000000 M2 e) = refsH (mkD 1000000 M2 D) e := fun D e => refsH_mk rep2.ok
              (refine gstep_list rfl ?_ ?_ ?_ ?_ <;> (try simp only [go_sem, tail_one, hrf, hw0]) <;> (try simp only [true_or, or_true, or_false, beq_self_eq_true, and_self, true_and, and_true]))
            · intro m hm
              have hdim0 : M.R + M.n + M.n < 90000 := hdim
              have rep3 := rep_red (r := r) (k := k) rep2 (by omega) m (by omega)
              have d3 := redM_dim (M := M2) (r := r) (k := k) m
              have hnx3 : redM M2 r k (m + 1) = (redM M2 r k m).less k (k + 1 + m) (Int.fdiv ((redM M2 r k m).g r (k + 1 + m)) ((redM M2 r k m).g r k)) := rfl
              have lb3 := hL.red t p m htT hpS (by rw [← hr.en]; exact hm)
              obtain ⟨lbA3, lbB3⟩ := lb3.all rep3
              have hrfn : k + 1 + m < M.n → ∀ D e, refsH (mkD 1000000 (redM M2 r k (m + 1)) D) (mkE 1000000 (redM M2 r k (m + 1)) e) = refsH (mkD 1000000 (redM M2 r k (m + 1)) D) e := fun h D e =>
                refsH_mk (rep_red (r := r) (k := k) rep2 (by omega) (m + 1) (by omega)).ok
              generalize hM3 : redM M2 r k m = M3 at rep3 d3 hnx3 lbA3 lbB3 ⊢
              have n3 : M3.n = M.n := d3.1.trans n2
              have R3 : M3.R = M.R := d3.2.trans R2
              obtain ⟨q, hq⟩ : ∃ q, q = k + 1 + m := ⟨_, rfl⟩
              have hq1 : ((k + 1 + (m + 1) : Nat) : Int) = (q : Int) + 1 := by omega
              have hm1 : k + 1 + m < M.n → k + 1 + (m + 1) ≤ M.n := by omega
              have hmt : k + 1 + m < M.n → M.n - (k + 1 + (m + 1)) < M.n - (k + 1 + m) := by omega
              rw [← hq] at hnx3 ⊢
              simp only [go_sem, n3, R3]
              refine CondR_if (fun hlt => ?_) (fun hge => ?_)
              · have hlt' : q < M.n := by omega
                have hqI : ((q : Int) < (M.n : Int)) = True := eq_true (by omega)
                have hkI : ((k : Int) < (M.n : Int)) = True := eq_true (by omega)
                have hrI : ((r : Int) < (M.R : Int)) = True := eq_true (by omega)
                have a3 : (rowsC 1000100 2 M.n M.R).drop r = .vec (1000100 + r) 2 0 M.n :: (rowsC 1000100 2 M.n M.R).drop (r + 1) := rowsC_at hR
                have hrl := rowsC_len (b := 1000100) (sz := 2) (len := M.n) (n := M.R)
                have kf : ∀ e, lookH (mkE 1000000 M3 e) (1000100 + r) = some (cellsL cJ (fnG M.n (M3.g r))) := fun e => by
                  have := mkKf (b := 1000000) (M := M3) (e := e) (i := r) (by unfold MX.N; omega)
                  rw [n3] at this; exact this
                have c1 := cG_at (f := cJ) (sz := 2) (g := M3.g r) cJ_len hlt'
                have c2 := cG_at (f := cJ) (sz := 2) (g := M3.g r) cJ_len (show k < M.n by omega)
                have cl := fun g => cJ_clen (n := M.n) (g := g)
                have b1 := lbA3 r q (by omega) (by omega)
                have b2 := lbA3 r k (by omega) (by omega)
                have o1 := w_Floor_e (M3.g r q) (M3.g r k) (by omega) (by omega)
                have hz := lN_fdiv (M3.g r q) (M3.g r k)
                generalize Int.fdiv (M3.g r q) (M3.g r k) = z at *
                refine regA_by 0 rfl ?_
                simp only [go_sem, n3, R3, a3, hrI, kf, c1, c2, hqI, hkI, cl, hrl, mkLo]
                (repeat (refine And.intro (by omega) ?_))
                ((repeat (refine regA_by 0 rfl ?_; simp only [go_sem, n3, R3, a3, hrI, kf, c1, c2, hqI, hkI, cl, hrl, mkLo])); refine call_pure (o1) rfl ?_; simp only [go_sem, n3, R3, a3, hrI, kf, c1, c2, hqI, hkI, cl, hrl, mkLo]; (repeat (refine regA_by 0 rfl ?_; simp only [go_sem, n3, R3, a3, hrI, kf, c1, c2, hqI, hkI, cl, hrl, mkLo])))
                refine call_mk (M := M3) (M' := M3.less k q z) 1000000 (.inr rfl) (h_less M3 k q z (K := K + 1) (by omega) rep3.ok (hdimN _ n3 R3) (by omega) (by omega) (fun h => by have := rep3.inj _ _ (by omega) (by omega) h; omega) (by omega) (fun a b h1 h2 => by have := lbA3 a b h1 h2; omega) (fun a b h1 h2 => by have := lbB3 a b h1 h2; omega)) rep3.ok rfl rfl rfl args4 (by simp only [go_sem, mkLo, AtM_upd]) ?_
                simp only [go_sem, mkLo, n3, R3]
                refine ⟨m + 1, hm1 (by omega), hmt (by omega), ?_⟩
                have hrf := hrfn (by omega)
                (refine gstep_list rfl ?_ ?_ ?_ ?_ <;> (try simp only [go_sem, tail_one, hq1, hrf, wrap_i64 (n := (q : Int) + 1) (by omega) (by omega)]) <;> (try simp only [true_or, or_true, or_false, beq_self_eq_true, and_self, true_and, and_true]))
                rw [hnx3]; exact at_or
              · have hmE : m = M.n - (k + 1) := by omega
                simp only [go_sem]
                refine ⟨t + 1, htT, (by show T - (t + 1) < T - t; omega), ?_⟩
                show Abs.GStep _ (stL 122 _ (mkE 1000000 (itM M r k (t + 1)) []))
                rw [hnx, ← hmE, hM3]
                have hrf : ∀ D e, refsH (mkD 1000000 M3 D) (mkE 1000000 M3 e) = refsH (mkD 1000000 M3 D) e := fun D e => refsH_mk rep3.ok
                (refine gstep_list rfl ?_ ?_ ?_ ?_ <;> (try simp only [go_sem, tail_one, hrf]) <;> (try simp only [true_or, or_true, or_false, beq_self_eq_true, and_self, true_and, and_true])))
end Go.Proofs.YtjmbhknhiakkpaaGreat
namespace Go.Proofs.YtjmbhknhiakkpaaGreat
open Go Go.Abs
set_option maxHeartbeats 32000000
/-! ### Matrices of noughts -/
theorem weakL_zJ : ∀ n : Nat, WeakL (repl n [C.t (.lit (.bool false)), C.t (.seq (some true) [])]) (cellsL cJ (fnG n fun _ => 0)) := by
  intro n
  have e : ∀ n, fnG n (fun _ => (0 : Int)) = List.replicate n 0 := fun n => by unfold fnG; rw [List.map_const']; simp
  rw [e]
  induction n with
  | zero => exact .nil
  | succ n ih =>
    unfold repl at ih ⊢
    rw [List.replicate_succ, List.replicate_succ, List.flatten_cons, cellsL_cons]
    exact .cons .refl (.cons (by show WeakC _ (.t (eN (dig 0))); rw [dig_zero]; exact .seq) ih)
def nilL (k : Nat) : List C := List.replicate k (C.t (.seq (some true) []))
theorem nilL_repl {k : Nat} : repl k [C.t (.seq (some true) [])] = nilL k := by
  unfold repl nilL
  induction k with
  | zero => rfl
  | succ k ih => rw [List.replicate_succ, List.flatten_cons, ih, List.replicate_succ]; rfl
theorem nilL_refs {k : Nat} {D : List Nat} : (nilL k).all (refsC D) = true := by
  unfold nilL; rw [List.all_replicate]; cases k <;> simp [refsC]
theorem nilL_map {k : Nat} {g : C → C} (h : ∀ x, g (.t x) = .t x) : (nilL k).map g = nilL k := by unfold nilL; rw [List.map_replicate, h]
/-- A new matrix: rows b + 100, .., its head b + 1. -/
def grL (b R n : Nat) (g : Nat → Nat → Int) : List (Nat × List C) := famE (b + 100) cJ (fun i => fnG n (g i)) R ++ [(b + 1, rowsC (b + 100) 2 n R)]
theorem rn_row2 {m i len : Nat} : rnC (mvN 17 (900100 + m)) (C.vec (900100 + i) 2 0 len) = C.vec (900100 + i) 2 0 len := by show C.vec (if 900100 + i = 17 then _ else _) _ _ _ = _; rw [if_neg (by omega)]
theorem fam10 {i t : Nat} (h : t < 900100) : (t = 900100 + i) = False := eq_false (by omega)
theorem fam9 {i t : Nat} (h : t < 900100) : (900100 + i = t) = False := eq_false (by omega)
theorem fam11 {i : Nat} : (900100 ≤ 900100 + i) = True := eq_true (by omega)
theorem grL_keys {b R n : Nat} {g : Nat → Nat → Int} : (grL b R n g).map (·.1) = famD (b + 100) R ++ [b + 1] := by unfold grL; rw [List.map_append, map_famE]; rfl
theorem grL_refs {b R n : Nat} {g : Nat → Nat → Int} : refsH ((grL b R n g).map (·.1)) (grL b R n g) = true := by
  rw [grL_keys]; unfold grL
  rw [refsH_fam]
  show ((rowsC (b + 100) 2 n R).all _ && true) = true
  rw [rowsC_refs]; rfl
theorem rowsC_jC {b sz len n c : Nat} (h : ∀ i, i < n → b + i ≠ c) : (rowsC b sz len n).map (jC c) = rowsC b sz len n := by
  unfold rowsC
  rw [List.map_map]
  exact List.map_congr_left fun i hi => by show (if b + i = c then C.t .junk else C.vec (b + i) sz 0 len) = _; rw [if_neg (h i (List.mem_range.1 hi))]
set_option maxRecDepth 100000 in
theorem h_grid (R n : Nat) (hR : R + n < 90000) : NCall Tryz.prog 32 [tI .i64 R, tI .i64 n] (lookH (grL 900000 R n fun _ _ => 0)) (.one (.vec 900001 1 0 R)) := by
  refine ncall_of_wpA mixed Tryz.call32 Tryz.func32 rfl Tryz.ntmps32 Tryz.results32 (by simp) (by decide) ?_ ?_ ?_
  · exact cl_of_refs grL_refs
  · show lookH (grL 900000 R n _) 900001 ≠ none
    rw [Ne, lookH_dom, grL_keys]
    intro h; exact h (by simp)
  · obtain ⟨g0, hg0⟩ : ∃ g0 : Nat → List Int, g0 = fun _ => fnG n fun _ => 0 := ⟨_, rfl⟩
    simp only [go_sem]
    (repeat (refine And.intro (by omega) ?_))
    refine loop_inv (fun i : Nat => stL 21 [(1, litI .i64 n), (5, .one (.vec 900001 1 0 R)), (10, litI .i64 R), (11, litI .i64 i)]
      (famE 900100 cJ g0 i ++ [(900001, rowsC 900100 2 n i ++ nilL (R - i))])) (fun i => i ≤ R) (fun i => R - i) 0 ?_ (Nat.zero_le _) ?_
    · rw [Nat.sub_zero]
      refine GStep.trans (gstep_mv (b := 8) (b' := 900001) (by simp only [go_sem]) (by decide) (by decide)) ?_
      have hnm : ∀ k g, (∀ x, g (.t x) = .t x) → (nilL k).map g = nilL k := fun k g h => nilL_map h
      (refine gstep_list rfl ?_ ?_ ?_ ?_ <;> (try simp only [go_sem, tail_one, nilL_repl, nilL_refs]) <;> (try simp only [true_or, or_true, or_false, beq_self_eq_true, and_self, true_and, and_true]))
      · refine ⟨fun i hi => by omega, ?_⟩
        rw [nilL_map fun _ => rfl]; rfl
      · exact nilL_refs
    · intro i hi
      simp only [go_sem]
      refine CondR_if (fun hlt => ?_) (fun hge => ?_)
      · have hlt' : i < R := by omega
        have hlen : (rowsC 900100 2 n i ++ nilL (R - i)).length = R := by rw [List.length_append, rowsC_len]; unfold nilL; rw [List.length_replicate]; omega
        have hset : (rowsC 900100 2 n i ++ nilL (R - i)).take i ++ C.vec 17 2 0 n :: (rowsC 900100 2 n i ++ nilL (R - i)).drop (i + 1) = rowsC 900100 2 n i ++ C.vec 17 2 0 n :: nilL (R - (i + 1)) := by
          rw [List.take_left' rowsC_len, List.drop_append, rowsC_len, List.drop_eq_nil_of_le (by rw [rowsC_len]; omega), List.nil_append, show i + 1 - i = 1 by omega]
          unfold nilL; rw [List.drop_replicate]; rfl
        generalize hY : rowsC 900100 2 n i ++ nilL (R - i) = Y at *
        simp only [go_sem, hlt, hlen, hset]
        (repeat (refine And.intro (by omega) ?_))
        refine ⟨i + 1, (by show i + 1 ≤ R; omega), (by show R - (i + 1) < R - i; omega), ?_⟩
        refine GStep.trans (gstep_weakH 17 (cs := repl n [C.t (T.lit (Value.bool false)), C.t (T.seq (some true) [])]) (by simp only [go_sem] <;> rfl) (weakL_zJ n)) ?_
        refine GStep.trans (gstep_mv (b := 17) (b' := 900100 + i) (by simp only [go_sem, fam9] <;> simp) (by show _ < 1000000; omega) (by omega)) ?_
        have hmv : (rowsC 900100 2 n i ++ C.vec 17 2 0 n :: nilL (R - (i + 1))).map (rnC (mvN 17 (900100 + i))) = rowsC 900100 2 n (i + 1) ++ nilL (R - (i + 1)) := by
          rw [List.map_append, List.map_cons, rowsC_rn (fun j hj => by show (if 900100 + j = 17 then _ else _) = _; rw [if_neg (by omega)]), nilL_map fun _ => rfl, ← rowsC_succ, List.append_assoc]
          show _ ++ C.vec (if 17 = 17 then 900100 + i else 17) 2 0 n :: _ = _
          rw [if_pos rfl]; rfl
        (refine gstep_list rfl ?_ ?_ ?_ ?_ <;> (try simp only [go_sem, tail_one, cellsL_refs, fam9, fam10, hmv, nilL_refs, wrap_i64 (n := (i : Int) + 1) (by omega) (by omega)]) <;> (try simp only [true_or, or_true, or_false, beq_self_eq_true, and_self, true_and, and_true]))
        · intro j hj
          by_cases e : j = i
          · rw [if_pos e, hg0]
          · rw [if_neg e, if_pos ⟨by omega, by omega⟩]; show some ((cellsL cJ (g0 j)).map (rnC _)) = _; rw [rnC_cells]
        · rw [List.all_append, rowsC_refs, nilL_refs]; rfl
      · obtain rfl : i = R := by omega
        simp only [go_sem]
        refine ⟨.inr rfl, (fun x hx => by obtain rfl := List.mem_singleton.1 hx; trivial), rfl, fun b cs h => ?_⟩
        show lookH (famE 900100 cJ g0 i ++ [(900001, rowsC 900100 2 n i ++ nilL (i - i))]) b = some cs
        rw [Nat.sub_self, show nilL 0 = [] from rfl, List.append_nil, hg0]
        exact h
/-- A call that makes a matrix behind others. -/
theorem call_grid {m : Nat} {f : FuncId} {ys : List AV} {tvs : List TV} {R n q hk : Nat} {g : Nat → Nat → Int} {rows : Nat → List Int} {e : List (Nat × List C)} {σ : St} {K : AV → St → Prop} (hm : m = 1 ∨ m = 2) (hN : NCall Tryz.prog f tvs (lookH (grL 900000 R n g)) (.one (.vec 900001 1 0 R))) (has : ys = tvs.map emb)
    (hq : q + R < 90000) (hk1 : hk < 900100) (hσ : σ.H = lookH (famE 900100 cJ rows q ++ e)) (he : ∀ b, b ∈ e.map (·.1) → b < 900100 ∧ b ≠ hk) (hr : ∀ i, i < R → rows (q + i) = fnG n (g i))
    (hK : K (.one (.vec hk 1 0 R)) (σ.withH (lookH (famE 900100 cJ rows (q + R) ++ ((hk, rowsC (900100 + q) 2 n R) :: e))))) : CallA Tryz.prog m f ys σ K := by
  have hX : ∀ b, lookH (grL 900000 R n g) b = if 900100 ≤ b ∧ b < 900100 + R then some (cellsL cJ (fnG n (g (b - 900100)))) else if b = 900001 then some (rowsC 900100 2 n R) else none := fun b => by
    unfold grL; rw [lookH_fam]; rfl
  have hXne : ∀ b, lookH (grL 900000 R n g) b ≠ none → (900100 ≤ b ∧ b < 900100 + R) ∨ b = 900001 := fun b h => by
    rw [hX] at h
    by_cases c : 900100 ≤ b ∧ b < 900100 + R
    · exact .inl c
    · rw [if_neg c] at h
      by_cases c2 : b = 900001
      · exact .inr c2
      · rw [if_neg c2] at h; exact (h rfl).elim
  have heN : ∀ b, (900100 ≤ b ∨ b = hk) → lookH e b = none := fun b hb => lookH_none fun hm => by
    have := he b hm
    rcases hb with h | h
    · omega
    · exact this.2 h
  have hP : PIN = 1000000 := rfl
  refine call_nc (fun b => if b = 900001 then hk else b + q) hm hN has (fun b hb => ?_) (fun b b' hb hb' h => ?_) (fun b cs hb => ?_) (fun x hx => ?_) (H' := lookH (famE 900100 cJ rows (q + R) ++ ((hk, rowsC (900100 + q) 2 n R) :: e))) ?_
  · rw [hσ]
    rcases hXne b hb with h | h
    · show lookH _ (if b = 900001 then hk else b + q) = none ∧ (if b = 900001 then hk else b + q) < PIN
      rw [if_neg (by omega), lookH_fam, if_neg (by omega)]
      exact ⟨heN _ (.inl (by omega)), by omega⟩
    · show lookH _ (if b = 900001 then hk else b + q) = none ∧ (if b = 900001 then hk else b + q) < PIN
      rw [if_pos h, lookH_fam, if_neg (by omega)]
      exact ⟨heN _ (.inr rfl), by omega⟩
  · have h : (if b = 900001 then hk else b + q) = (if b' = 900001 then hk else b' + q) := h
    rcases hXne b hb with h1 | h1 <;> rcases hXne b' hb' with h2 | h2
    · rw [if_neg (by omega), if_neg (by omega)] at h; omega
    · rw [if_neg (by omega), if_pos h2] at h; omega
    · rw [if_pos h1, if_neg (by omega)] at h; omega
    · omega
  · show lookH _ (if b = 900001 then hk else b + q) = _
    rcases hXne b (by rw [hb]; simp) with h | h
    · rw [hX, if_pos h] at hb
      cases hb
      rw [if_neg (by omega), lookH_fam, if_pos ⟨by omega, by omega⟩, rnC_cells, show b + q - 900100 = q + (b - 900100) by omega, hr _ (by omega)]
    · rw [hX, if_neg (by omega), if_pos h] at hb
      cases hb
      rw [if_pos h, lookH_fam, if_neg (by omega)]
      show (if hk = hk then _ else _) = _
      rw [if_pos rfl]
      unfold rowsC
      rw [List.map_map]
      congr 1
      exact List.map_congr_left fun i hi => by
        show _ = C.vec (if 900100 + i = 900001 then hk else 900100 + i + q) 2 0 n
        rw [if_neg (by omega), show 900100 + q + i = 900100 + i + q by omega]
  · rw [hσ, lookH_fam, lookH_fam]
    have hx1 : x ≠ hk := fun h => hx 900001 (by rw [hX, if_neg (by omega), if_pos rfl]; simp) (by show (if 900001 = 900001 then hk else _) = x; rw [if_pos rfl, h])
    have hx2 : ¬ (900100 + q ≤ x ∧ x < 900100 + q + R) := fun h => hx (x - q) (by rw [hX, if_pos ⟨by omega, by omega⟩]; simp) (by show (if x - q = 900001 then hk else x - q + q) = x; rw [if_neg (by omega)]; omega)
    by_cases c : 900100 ≤ x ∧ x < 900100 + q
    · rw [if_pos c, if_pos ⟨c.1, by omega⟩]
    · rw [if_neg c, if_neg (by omega)]
      show (if x = hk then _ else lookH e x) = _
      rw [if_neg hx1]
  · show K (.one (.vec (if 900001 = 900001 then hk else 900001 + q) 1 0 R)) _
    rw [if_pos rfl]; exact hK
def dlt (i j : Nat) : Int := if i = j then 1 else 0
def dltK (k i j : Nat) : Int := if i < k then dlt i j else 0
set_option maxRecDepth 100000 in
theorem h_unit (n : Nat) (hn : n < 40000) : NCall Tryz.prog 55 [tI .i64 n] (lookH (grL 900000 n n dlt)) (.one (.vec 900001 1 0 n)) := by
  refine ncall_of_wpA mixed Tryz.call55 Tryz.func55 rfl Tryz.ntmps55 Tryz.results55 (by simp) (by decide) ?_ ?_ ?_
  · exact cl_of_refs grL_refs
  · show lookH (grL 900000 n n _) 900001 ≠ none
    rw [Ne, lookH_dom, grL_keys]
    intro h; exact h (by simp)
  · have o1 : PCall Tryz.prog 41 [tI .i64 1] (eI 1) := w_Of_e 1 (by decide) (by decide)
    have gr := h_grid n n (by omega)
    have z1 : (1 : Int) = 1 := rfl
    simp only [go_sem]
    refine call_grid (m := 2) (q := 0) (hk := 900001) (g := fun _ _ => 0) (rows := fun i => fnG n (dltK 0 i)) (e := []) (.inr rfl) gr rfl (by omega) (by decide) ?_ (fun b hb => by cases hb) (fun i hi => fnG_congr fun j hj => by show dltK 0 (0 + i) j = 0; unfold dltK; rw [if_neg (Nat.not_lt_zero _)]) ?_
    · funext b
      rfl
    · simp only [go_sem]
      obtain ⟨one, h1⟩ : ∃ one : Int, one = 1 := ⟨_, rfl⟩
      have o1 : PCall Tryz.prog 41 [tI .i64 1] (eI one) := by rw [h1]; exact o1
      refine loop_inv (fun i : Nat => stL 22 [(3, .one (.vec 900001 1 0 n)), (9, litI .i64 n), (10, litI .i64 i)]
        (famE 900100 cJ (fun j => fnG n (dltK i j)) n ++ [(900001, rowsC 900100 2 n n)])) (fun i => i ≤ n) (fun i => n - i) 0 ?_ (Nat.zero_le _) ?_
      · (refine gstep_list rfl ?_ ?_ ?_ ?_ <;> (try simp only [go_sem, tail_one, cellsL_refs]) <;> (try simp only [true_or, or_true, or_false, beq_self_eq_true, and_self, true_and, and_true]))
        exact fun i hi => by rw [if_pos ⟨by omega, hi⟩]
      · intro i hi
        simp only [go_sem]
        refine CondR_if (fun hlt => ?_) (fun hge => ?_)
        · have hlt' : i < n := by omega
          have a3 : (rowsC 900100 2 n n).drop i = .vec (900100 + i) 2 0 n :: (rowsC 900100 2 n n).drop (i + 1) := rowsC_at hlt'
          have hrl := rowsC_len (b := 900100) (sz := 2) (len := n) (n := n)
          have cl := fun g => cJ_clen (n := n) (g := g)
          have sd := cJ_sd (n := n) (g := dltK i i) hlt' (q := one)
          simp only [go_sem]
          refine regA_by 0 rfl ?_
          simp only [go_sem, a3, hrl, hlt, cl, fam9, fam11, hlt', sd]
          (repeat (refine And.intro (by omega) ?_))
          ((repeat (refine regA_by 0 rfl ?_; simp only [go_sem, a3, hrl, hlt, cl, fam9, fam11, hlt', sd])); refine call_pure (o1) rfl ?_; simp only [go_sem, a3, hrl, hlt, cl, fam9, fam11, hlt', sd]; (repeat (refine regA_by 0 rfl ?_; simp only [go_sem, a3, hrl, hlt, cl, fam9, fam11, hlt', sd])))
          (repeat (refine And.intro (by omega) ?_))
          refine ⟨i + 1, hlt', (by show n - (i + 1) < n - i; omega), ?_⟩
          (refine gstep_list rfl ?_ ?_ ?_ ?_ <;> (try simp only [go_sem, tail_one, cellsL_refs, fam9, fam10, sd, wrap_i64 (n := (i : Int) + 1) (by omega) (by omega)]) <;> (try simp only [true_or, or_true, or_false, beq_self_eq_true, and_self, true_and, and_true]))
          intro j hj
          by_cases e : j = i
          · rw [if_pos e]
            congr 2
            refine fnG_congr fun v hv => ?_
            have k1 : dltK i i v = 0 := if_neg (Nat.lt_irrefl i)
            have k2 : dltK (i + 1) i v = dlt i v := if_pos (Nat.lt_succ_self i)
            rw [e, k2]
            by_cases ev : v = i
            · rw [if_pos ev, h1]; unfold dlt; rw [if_pos ev.symm]
            · rw [if_neg ev, k1]; unfold dlt; rw [if_neg (fun h => ev h.symm)]
          · rw [if_neg e, if_pos ⟨by omega, hj⟩]
            congr 2
            refine fnG_congr fun v hv => ?_
            unfold dltK
            by_cases ej : j < i
            · rw [if_pos ej, if_pos (by omega)]
            · rw [if_neg ej, if_neg (by omega)]
        · obtain rfl : i = n := by omega
          simp only [go_sem]
          refine ⟨.inr rfl, (fun x hx => by obtain rfl := List.mem_singleton.1 hx; trivial), rfl, fun b cs h => ?_⟩
          refine Eq.trans ?_ h
          show lookH (famE 900100 cJ (fun j => fnG i (dltK i j)) i ++ [(900001, rowsC 900100 2 i i)]) b = lookH (famE 900100 cJ (fun j => fnG i (dlt j)) i ++ [(900001, rowsC 900100 2 i i)]) b
          rw [lookH_fam, lookH_fam]
          by_cases c : 900100 ≤ b ∧ b < 900100 + i
          · rw [if_pos c, if_pos c]
            have e : fnG i (dltK i (b - 900100)) = fnG i (dlt (b - 900100)) := fnG_congr fun j _ => by unfold dltK; rw [if_pos (by omega)]
            rw [e]
          · rw [if_neg c, if_neg c]
end Go.Proofs.YtjmbhknhiakkpaaGreat
namespace Go.Proofs.YtjmbhknhiakkpaaGreat
open Go Go.Abs
set_option maxHeartbeats 32000000
/-! ### Matrices as they are handed over -/
abbrev RI := Bool × List Nat
abbrev vR (p : RI) : Int := iv p.1 p.2
def cMw (row : List RI) : List T := [eL cI row]
theorem cMw_len (row : List RI) : (cMw row).length = 1 := rfl
attribute [go_sem] cMw
abbrev eW (a : List (List RI)) : T := eL cMw a
def atR (row : List RI) (j : Nat) : Int := match row[j]? with | some p => vR p | none => 0
def atW (a : List (List RI)) (i j : Nat) : Int := match a[i]? with | some row => atR row j | none => 0
def encJ (z : Int) : RI := (decide (z < 0), dig z.natAbs)
theorem cI_enc (z : Int) : cI (encJ z) = cJ z := rfl
theorem vR_enc (z : Int) : vR (encJ z) = z := iv_eI z
theorem atR_lt {row : List RI} {j : Nat} (h : j < row.length) : atR row j = vR row[j] := by unfold atR; rw [List.getElem?_eq_getElem h]
theorem atR_ge {row : List RI} {j : Nat} (h : row.length ≤ j) : atR row j = 0 := by unfold atR; rw [List.getElem?_eq_none h]
theorem atW_lt {a : List (List RI)} {i j : Nat} (h : i < a.length) : atW a i j = atR a[i] j := by unfold atW; rw [List.getElem?_eq_getElem h]
theorem atW_ge {a : List (List RI)} {i j : Nat} (h : a.length ≤ i) : atW a i j = 0 := by unfold atW; rw [List.getElem?_eq_none h]
/-- All numbers of a row are at most so long. -/
def LR (L : Nat) (row : List RI) : Prop := row.length < 1000000000 ∧ ∀ p ∈ row, p.2.length ≤ L
theorem LR.at {L : Nat} {row : List RI} (h : LR L row) (j : Nat) : lN (atR row j) ≤ L := by
  by_cases c : j < row.length
  · rw [atR_lt c]
    exact Nat.le_trans (lN_iv _ _) (h.2 _ (List.getElem_mem c))
  · rw [atR_ge (by omega)]; unfold lN; simp [dig_zero]
abbrev zAg : TV := .agg [.lit (.bool false), .seq (some true) []]
theorem h_place (row : List RI) (j : Nat) {L : Nat} (hL : L ≤ 10000000000) (hl : LR L row) (hj : j < 1000000000) : PCall Tryz.prog 35 [.one (eL cI row), tI .i64 j] (eI (atR row j)) := by
  have hl1 := hl.1
  have z : eI 0 = gI false [] := by show gI (decide ((0 : Int) < 0)) (dig 0) = _; rw [dig_zero]; rfl
  refine pcall_of_wpA mixed Tryz.call35 Tryz.func35 rfl Tryz.ntmps35 Tryz.results35 (by simp) (by decide) ?_
  simp only [go_sem]
  refine CondR_if (fun hge => ?_) (fun hlt => ?_)
  · rw [atR_ge (by omega), z]
    simp only [go_sem]
    exact fz_agg2 .t .weak
  · have hlt' : j < row.length := by omega
    have hel : elemD cI row j = cI row[j] := elemD_lt hlt'
    have hb := hl.2 _ (List.getElem_mem hlt')
    rw [atR_lt hlt']
    generalize row[j] = p at *
    have o1 := (w_Add p.1 p.2 false [] (by omega) (by simp)).fz (tvs' := [gI p.1 p.2, zAg]) (.cons (fz_agg2 .t .t) (.cons (fz_agg2 .t .weak) .nil))
    have e0 : iv p.1 p.2 + iv false [] = vR p := by
      have : iv false [] = 0 := by unfold iv; simp [val]
      rw [this, Int.add_zero]
    rw [e0] at o1
    have hI : ((j : Int) < (row.length : Int)) = True := eq_true (by omega)
    simp only [go_sem, hel, hI, cI]
    (repeat (refine And.intro (by omega) ?_))
    ((repeat (refine regA_by 0 rfl ?_; simp only [go_sem, hel, hI, cI])); refine call_pure (o1) rfl ?_; simp only [go_sem, hel, hI, cI]; (repeat (refine regA_by 0 rfl ?_; simp only [go_sem, hel, hI, cI])))
    exact fz_agg2 .t .t
/-! ### Own rows become trees -/
theorem prmF {b n sz len k m : Nat} {x : Nat → T} {s : Nat → Nat} (h : ∀ i, i < m → k + s i < n) : (prmC (b + k) sz len s m).map (fF b n sz len x) = cellsL (fun i => [x (k + s i)]) (List.range m) := by
  have e : cellsL (fun i => [x (k + s i)]) (List.range m) = (List.range m).map fun i => C.t (x (k + s i)) := by
    unfold cellsL
    generalize List.range m = l
    induction l with
    | nil => rfl
    | cons i l ih => rw [List.map_cons, List.flatten_cons, List.map_append, ih]; rfl
  rw [e]
  unfold prmC
  rw [List.map_map]
  refine List.map_congr_left fun i hi => ?_
  have := h i (List.mem_range.1 hi)
  show (if b ≤ b + k + s i ∧ b + k + s i < b + n then _ else _) = _
  rw [if_pos ⟨by omega, by omega⟩, if_pos ⟨rfl, rfl, rfl⟩, show b + k + s i - b = k + s i by omega]
/-- A row of integers, as a tree. -/
def rowT (n : Nat) (g : Nat → Int) : T := eL cJ (fnG n g)
/-- A matrix of integers as it would be handed over. -/
def rawM (R n : Nat) (g : Nat → Nat → Int) : List (List RI) := fnG R fun i => fnG n fun j => encJ (g i j)
theorem rowT_raw {n : Nat} {g : Nat → Int} : rowT n g = eL cI (fnG n fun j => encJ (g j)) := by
  unfold rowT eL fnG
  rw [List.map_map, List.map_map]; rfl
theorem eL_rowT {R n : Nat} {g : Nat → Nat → Int} : eL (fun i => [rowT n (g i)]) (List.range R) = eW (rawM R n g) := by
  unfold rawM
  show T.seq none _ = T.seq none _
  congr 1
  unfold fnG
  rw [List.map_map]
  exact List.map_congr_left fun i _ => by rw [rowT_raw]; rfl
theorem rawM_len {R n : Nat} {g : Nat → Nat → Int} : (rawM R n g).length = R := fnG_len
theorem atW_raw {R n i j : Nat} {g : Nat → Nat → Int} (hi : i < R) (hj : j < n) : atW (rawM R n g) i j = g i j := by
  rw [atW_lt (by rw [rawM_len]; exact hi)]
  have e : (rawM R n g)[i]'(by rw [rawM_len]; exact hi) = fnG n fun j => encJ (g i j) := fnG_get _
  rw [e, atR_lt (by rw [fnG_len]; exact hj), fnG_get, vR_enc]
theorem rowT_tree {n : Nat} {g : Nat → Int} : TreeOf (cellsL cJ (fnG n g)) 2 n (rowT n g) := by
  have := treeOf_L (f := cJ) (xs := fnG n g) cJ_len
  rw [fnG_len] at this; exact this
theorem headT {R n : Nat} {g : Nat → Nat → Int} : TreeOf (cellsL (fun i => [rowT n (g i)]) (List.range R)) 1 R (eW (rawM R n g)) := by
  have := treeOf_L (f := fun i => [rowT n (g i)]) (sz := 1) (xs := List.range R) (fun _ => rfl)
  rw [List.length_range, eL_rowT] at this; exact this
end Go.Proofs.YtjmbhknhiakkpaaGreat
namespace Go.Proofs.YtjmbhknhiakkpaaGreat
open Go Go.Abs
set_option maxHeartbeats 64000000
theorem AtM_of {H : Heap} {b : Nat} {M : MX} (hf : ∀ i, i < M.N → H (b + 100 + i) = some (cellsL cJ (fnG M.n (M.g i)))) (h0 : H b = some [.vec (b + 1) 1 0 M.R, .vec (b + 2) 1 0 M.n, .vec (b + 3) 1 0 M.n])
    (h1 : H (b + 1) = some (rowsC (b + 100) 2 M.n M.R)) (h2 : H (b + 2) = some (rowsC (b + 100 + M.R) 2 M.n M.n)) (h3 : H (b + 3) = some (prmC (b + 100 + M.R + M.n) 2 M.n M.s M.n)) : AtM H b M := fun k cs h => by
  rw [mk_at] at h
  split at h
  · rename_i c
    have := hf (k - 100) (by omega)
    rw [show b + 100 + (k - 100) = b + k by omega] at this
    rw [this]; exact h
  · split at h
    · rename_i e; subst e; rw [← h]; exact h0
    · split at h
      · rename_i e; subst e; rw [← h]; exact h1
      · split at h
        · rename_i e; subst e; rw [← h]; exact h2
        · split at h
          · rename_i e; subst e; rw [← h]; exact h3
          · cases h
theorem fC_cells {α : Type} {f : α → List T} {xs : List α} {b sz len : Nat} {x : T} : (cellsL f xs).map (fC b sz len x) = cellsL f xs := by unfold cellsL; rw [List.map_map]; rfl
theorem rawM_congr {R n : Nat} {g g' : Nat → Nat → Int} (h : ∀ i j, i < R → j < n → g i j = g' i j) : rawM R n g = rawM R n g' :=
  fnG_congr fun i hi => fnG_congr fun j hj => by rw [h i j hi hj]
/-- The maker with the first rows of the matrix. -/
def filM (a : Nat → Nat → Int) (n R i : Nat) : MX := ⟨n, R, fun q => if q < R then (if q < i then a q else fun _ => 0) else if q < R + n then dlt (q - R) else dlt (q - R - n), fun i => i⟩
theorem filM_ok {a : Nat → Nat → Int} {n R i : Nat} : (filM a n R i).Ok := fun _ h => h
theorem filM_rep {a : Nat → Nat → Int} {n R : Nat} : Rep (filM a n R R) (startH a n R) where
  en := rfl
  eR := rfl
  h := fun r c h1 h2 => by
    have h1 : r < R := h1
    show (if r < R then (if r < R then a r else fun _ => 0) else _) c = a r c
    rw [if_pos h1, if_pos h1]
  u := fun r c h1 h2 => by
    have h1 : r < n := h1
    show (if R + r < R then _ else if R + r < R + n then dlt (R + r - R) else _) c = dltI r c
    rw [if_neg (by omega), if_pos (by omega), show R + r - R = r by omega]; rfl
  v := fun r c h1 h2 => by
    have h1 : r < n := h1
    show (if R + n + r < R then _ else if R + n + r < R + n then _ else dlt (R + n + r - R - n)) c = dltI r c
    rw [if_neg (by omega), if_neg (by omega), show R + n + r - R - n = r by omega]; rfl
  ok := filM_ok
  inj := fun i j _ _ h => h
def madM (a : Nat → Nat → Int) (n R : Nat) : Nat → MX
  | 0 => filM a n R R
  | r + 1 => endM (itM (madM a n R r) r (madeS a n R r).2 (fuE (madeS a n R r).1 r (madeS a n R r).2)) r (madeS a n R r).2
theorem madM_rep {a : Nat → Nat → Int} {n R : Nat} : ∀ r, r ≤ R → Rep (madM a n R r) (madeS a n R r).1
  | 0, _ => filM_rep
  | r + 1, h => by
    have ih := madM_rep (a := a) (n := n) (R := R) r (by omega)
    have hd := madeS_dim (a := a) (n := n) (R := R) r
    have hk := madeS_le (a := a) (n := n) (R := R) r
    have hn := ih.en
    have hR := ih.eR
    obtain ⟨h1, h2, h3⟩ := rep_it (r := r) (k := (madeS a n R r).2) ih (by omega) (by omega) (fuE (madeS a n R r).1 r (madeS a n R r).2)
    exact (rep_end (r := r) (k := (madeS a n R r).2) h1 (by omega) (by omega)).1
def LBmade (K : Nat) (a : Nat → Nat → Int) (n R : Nat) : Prop := ∀ r, r < R → LBrow K (madeS a n R r).1 r (madeS a n R r).2 (fuE (madeS a n R r).1 r (madeS a n R r).2)
/-- What the maker's block holds in the end. -/
def outH (S : HX) : List (Nat × List C) := [(900000, [.t (eW (rawM S.R S.n S.h)), .t (eW (rawM S.n S.n S.u)), .t (eW (rawM S.n S.n S.v))])]
def cI1 (v : Int) : List T := [.lit (.int .i64 v)]
theorem cI1_len (v : Int) : (cI1 v).length = 1 := rfl
attribute [go_sem] cI1
theorem zI1 (k : Nat) : repl k [C.t (.lit (.int .i64 0))] = cellsL cI1 (fnG k fun _ => 0) := by
  have e : fnG k (fun _ => (0 : Int)) = List.replicate k 0 := by unfold fnG; rw [List.map_const']; simp
  rw [e]
  unfold repl
  induction k with
  | zero => rfl
  | succ k ih =>
    have e : fnG k (fun _ => (0 : Int)) = List.replicate k 0 := by unfold fnG; rw [List.map_const']; simp
    rw [List.replicate_succ, List.replicate_succ, List.flatten_cons, cellsL_cons, ih e]; rfl
theorem cI1_sd {n : Nat} {g : Nat → Int} {i : Nat} (hi : i < n) {y : Int} : (cellsL cI1 (fnG n g)).take i ++ C.t (.lit (.int .i64 y)) :: (cellsL cI1 (fnG n g)).drop (i + 1) = cellsL cI1 (fnG n (fun v => if v = i then y else g v)) := by
  have := cG_set (f := cI1) (sz := 1) cI1_len hi (g := g) (y := y)
  rw [Nat.mul_one] at this
  rw [← this]; simp [setCs, cI1]
theorem cI1_clen {n : Nat} {g : Nat → Int} : (cellsL cI1 (fnG n g)).length = n := by rw [cG_len cI1_len, Nat.mul_one]
theorem mkL_lo {b t : Nat} {M : MX} (h : t < b) : lookH (mkL b M) t = none := lookH_none fun hm => by have := mk_key hm; omega
set_option maxRecDepth 100000 in
theorem h_made (a : List (List RI)) (n : Nat) {K L : Nat} (hK : K ≤ 4000000000) (hL : L ≤ 10000000000) (hn : n ≤ 40) (hR : a.length < 40000) (ha : ∀ row ∈ a, LR L row) (hb : LBmade K (atW a) n a.length) :
    NCall Tryz.prog 31 [.one (eW a), tI .i64 n] (lookH (outH (madeS (atW a) n a.length a.length).1)) (.tup [.one (.ptr 900000 0), .one (.t (eL cI1 (fnG a.length (pvS (atW a) n a.length))))]) := by
  obtain ⟨R, hRe⟩ : ∃ R, R = a.length := ⟨_, rfl⟩
  refine ncall_of_wpG mixed Tryz.call31 Tryz.func31 rfl Tryz.ntmps31 Tryz.results31 (by simp) (by decide) ?_ ?_ ?_
  · refine cl_of_refs ?_
    simp [outH, refsH, refsC]
  · refine ⟨?_, trivial, trivial⟩
    show lookH _ 900000 ≠ none
    simp [outH, lookH]
  · have gr := h_grid R n (by omega)
    have un := h_unit n (by omega)
    have hda : (eW a) = eL cMw a := rfl
    rw [← hRe] at hb ⊢
    have hmx : (if (0 : Int) > (n : Int) then (0 : Int) else (n : Int)) = (n : Int) := if_neg (by omega)
    have hmn : (if (40 : Int) < (n : Int) then (40 : Int) else (n : Int)) = (n : Int) := by (split <;> omega)
    simp only [go_sem]
    refine opA_max rfl (by simp only [go_sem] <;> rfl) (by simp only [go_sem] <;> rfl) (Nat.le_refl _) ?_
    simp only [go_sem, hmx]
    skip
    try simp only [go_sem, hmn]
    rw [← hRe]
    have er : ∀ q, fnG n ((filM (atW a) n R 0).g q) = fnG n (if q < R then (fun _ => 0) else if q < R + n then dlt (q - R) else dlt (q - R - n)) := fun q => by
      show fnG n (if q < R then (if q < 0 then atW a q else fun _ => 0) else _) = _
      rw [if_neg (Nat.not_lt_zero _)]
    refine call_grid (m := 2) (q := 0) (hk := 900001) (g := fun _ _ => 0) (rows := fun q => fnG n ((filM (atW a) n R 0).g q)) (e := []) (.inr rfl) gr rfl (by omega) (by decide) rfl (fun b hb => by cases hb) (fun i hi => by rw [er, Nat.zero_add, if_pos hi]) ?_
    simp only [go_sem, Nat.zero_add, Nat.add_zero]
    refine call_grid (m := 2) (q := R) (hk := 900002) (g := dlt) (e := [(900001, rowsC 900100 2 n R)]) (rows := fun q => fnG n ((filM (atW a) n R 0).g q)) (.inr rfl) un rfl (by omega) (by decide) rfl (fun b hb => by simp at hb; omega) (fun i hi => by rw [er, if_neg (by omega), if_pos (by omega), show R + i - R = i by omega]) ?_
    simp only [go_sem]
    refine call_grid (m := 2) (q := R + n) (hk := 900003) (g := dlt) (e := [(900002, rowsC (900100 + R) 2 n n), (900001, rowsC 900100 2 n R)]) (rows := fun q => fnG n ((filM (atW a) n R 0).g q)) (.inr rfl) un rfl (by omega) (by decide) rfl (fun b hb => by simp at hb; omega) (fun i hi => by rw [er, if_neg (by omega), if_neg (by omega), show R + n + i - R - n = i by omega]) ?_
    simp only [go_sem]
    obtain ⟨A, hA⟩ : ∃ A, A = atW a := ⟨_, rfl⟩
    rw [← hA] at hb ⊢
    have hrf0 : ∀ i D e, refsH (mkD 900000 (filM A n R i) D) (mkE 900000 (filM A n R i) e) = refsH (mkD 900000 (filM A n R i) D) e := fun i D e => refsH_mk filM_ok
    refine loop_inv (fun i : Nat => stL 75 [(0, .one (.t (eL cMw a))), (1, litI .i64 n), (6, .one (.ptr 900000 0)), (26, .one (.t (eL cMw a))), (27, litI .i64 R), (28, litI .i64 i)] (mkE 900000 (filM A n R i) [])) (fun i => i ≤ R) (fun i => R - i) 0 ?_ (Nat.zero_le _) ?_
    · refine GStep.trans (gstep_mv (b := 25) (b' := 900000) (by simp only [go_sem]) (by decide) (by decide)) ?_
      (refine gstep_list rfl ?_ ?_ ?_ ?_ <;> (try simp only [go_sem, tail_one, hrf0, ← hRe]) <;> (try simp only [true_or, or_true, or_false, beq_self_eq_true, and_self, true_and, and_true]))
      refine AtM_of (fun q hq => ?_) ?_ ?_ ?_ ?_
      · have hq : q < R + n + n := hq
        show _ = some (cellsL cJ (fnG n ((filM A n R 0).g q)))
        rw [show 900000 + 100 + q = 900100 + q from rfl]
        simp only [go_sem, fam9, fam11]
        rw [if_pos hq]
        show some ((cellsL cJ _).map (rnC _)) = _
        rw [rnC_cells]
      · simp only [go_sem]
        rfl
      · simp only [go_sem]
        rw [rowsC_rn fun i hi => by show (if 900100 + i = 25 then _ else _) = _; rw [if_neg (by omega)]]
        rfl
      · simp only [go_sem]
        rw [rowsC_rn fun i hi => by show (if 900100 + R + i = 25 then _ else _) = _; rw [if_neg (by omega)]]
        rfl
      · simp only [go_sem]
        rw [rowsC_rn fun i hi => by show (if 900100 + (R + n) + i = 25 then _ else _) = _; rw [if_neg (by omega)], ← Nat.add_assoc]
        rfl
    · intro i hi
      simp only [go_sem]
      refine CondR_if (fun hlt => ?_) (fun hge => ?_)
      · have hlt' : i < R := by omega
        have hla : i < a.length := by omega
        have hel : elemD cMw a i = cMw a[i] := elemD_lt hla
        have hLR := ha _ (List.getElem_mem hla)
        have hAt : A i = atR a[i] := by rw [hA]; funext j; exact atW_lt hla
        generalize a[i] = row at *
        simp only [go_sem, hel, hlt, ← hRe]
        (repeat (refine And.intro (by omega) ?_))
        have n2 : ∀ j f, ((filM A n R i).rw i j f).n = n := fun _ _ => rfl
        have R2 : ∀ j f, ((filM A n R i).rw i j f).R = R := fun _ _ => rfl
        have hrf2 : ∀ j f D e, refsH (mkD 900000 ((filM A n R i).rw i j f) D) (mkE 900000 ((filM A n R i).rw i j f) e) = refsH (mkD 900000 ((filM A n R i).rw i j f) D) e := fun j f D e => refsH_mk (M := (filM A n R i).rw i j f) (fun _ h => h)
        refine loop_inv (fun j : Nat => stL 75 [(0, .one (.t (eL cMw a))), (1, litI .i64 n), (6, .one (.ptr 900000 0)), (26, .one (.t (eL cMw a))), (27, litI .i64 R), (28, litI .i64 i), (7, litI .i64 i), (8, .one (.t (eL cI row))), (33, litI .i64 n), (34, litI .i64 j)] (mkE 900000 ((filM A n R i).rw i j (A i)) [])) (fun j => j ≤ n) (fun j => n - j) 0 ?_ (Nat.zero_le _) ?_
        · rw [rw_zero]
          (refine gstep_list rfl ?_ ?_ ?_ ?_ <;> (try simp only [go_sem, tail_one, hrf0]) <;> (try simp only [true_or, or_true, or_false, beq_self_eq_true, and_self, true_and, and_true]))
        · intro j hj
          simp only [go_sem]
          refine CondR_if (fun hlj => ?_) (fun hgj => ?_)
          · have hlj' : j < n := by omega
            have o1 := h_place row j hL hLR (by omega)
            have a3 : (rowsC 900100 2 n R).drop i = .vec (900100 + i) 2 0 n :: (rowsC 900100 2 n R).drop (i + 1) := rowsC_at hlt'
            have hrl := rowsC_len (b := 900100) (sz := 2) (len := n) (n := R)
            have cl := fun g => cJ_clen (n := n) (g := g)
            have hg0 : (filM A n R i).g i = fun _ => 0 := by
              show (if i < R then (if i < i then A i else fun _ => 0) else _) = _
              rw [if_pos hlt', if_neg (Nat.lt_irrefl _)]
            have hg2 : ((filM A n R i).rw i j (A i)).g i = fun c => if c < j then A i c else 0 := by
              show (if i = i then fun c => if c < j then A i c else (filM A n R i).g i c else (filM A n R i).g i) = _
              rw [if_pos rfl, hg0]
            have kf : ∀ e, lookH (mkE 900000 ((filM A n R i).rw i j (A i)) e) (900100 + i) = some (cellsL cJ (fnG n fun c => if c < j then A i c else 0)) := fun e => by
              have := mkKf (b := 900000) (M := (filM A n R i).rw i j (A i)) (e := e) (i := i) (by show i < R + n + n; omega)
              rw [hg2] at this; exact this
            have sd := cJ_sd (n := n) (g := fun c => if c < j then A i c else 0) hlj' (q := atR row j)
            simp only [go_sem]
            refine regA_by 0 rfl ?_
            simp only [go_sem, n2, R2, a3, hrl, hlt, kf, cl, hlj, sd]
            (repeat (refine And.intro (by omega) ?_))
            ((repeat (refine regA_by 0 rfl ?_; simp only [go_sem, n2, R2, a3, hrl, hlt, kf, cl, hlj, sd])); refine call_pure (o1) rfl ?_; simp only [go_sem, n2, R2, a3, hrl, hlt, kf, cl, hlj, sd]; (repeat (refine regA_by 0 rfl ?_; simp only [go_sem, n2, R2, a3, hrl, hlt, kf, cl, hlj, sd])))
            (repeat (refine And.intro (by omega) ?_))
            refine ⟨j + 1, hlj', (by show n - (j + 1) < n - j; omega), ?_⟩
            (refine gstep_list rfl ?_ ?_ ?_ ?_ <;> (try simp only [go_sem, tail_one, hrf2, sd, wrap_i64 (n := (j : Int) + 1) (by omega) (by omega)]) <;> (try simp only [true_or, or_true, or_false, beq_self_eq_true, and_self, true_and, and_true]))
            have := rw_row (b := 900000) (M := filM A n R i) (q := i) (k := j) (fv := A i) (H := lookH (mkE 900000 ((filM A n R i).rw i j (A i)) [])) (by rw [AtM_self]; trivial)
            rw [hg0, show A i j = atR row j by rw [hAt]] at this
            exact this
          · obtain rfl : j = n := by omega
            simp only [go_sem]
            refine ⟨i + 1, hlt', (by show R - (i + 1) < R - i; omega), ?_⟩
            (refine gstep_list rfl ?_ ?_ ?_ ?_ <;> (try simp only [go_sem, tail_one, hrf0, wrap_i64 (n := (i : Int) + 1) (by omega) (by omega)]) <;> (try simp only [true_or, or_true, or_false, beq_self_eq_true, and_self, true_and, and_true]))
            refine AtM.same (b := 900000) (M := (filM A j R i).rw i j (A i)) (g' := (filM A j R (i + 1)).g) (by rw [AtM_self]; trivial) fun q hq c hc => ?_
            have hc : c < j := hc
            show (if q < R then (if q < i + 1 then A q else fun _ => 0) else if q < R + j then dlt (q - R) else dlt (q - R - j)) c = (if q = i then fun c => if c < j then A i c else (filM A j R i).g q c else if q < R then (if q < i then A q else fun _ => 0) else if q < R + j then dlt (q - R) else dlt (q - R - j)) c
            by_cases e : q = i
            · rw [if_pos e, if_pos (by omega), if_pos (by omega), e, if_pos hc]
            · rw [if_neg e]
              by_cases e2 : q < R
              · rw [if_pos e2, if_pos e2]
                by_cases e3 : q < i
                · rw [if_pos e3, if_pos (by omega)]
                · rw [if_neg e3, if_neg (by omega)]
              · rw [if_neg e2, if_neg e2]
      · obtain rfl : i = R := by omega
        have hdN : ∀ r, r ≤ i → Rep (madM A n i r) (madeS A n i r).1 := fun r h => madM_rep r h
        have hd1 : ∀ r, r ≤ i → (madM A n i r).n = n ∧ (madM A n i r).R = i := fun r h => by
          have h1 := hdN r h
          have h2 := madeS_dim (a := A) (n := n) (R := i) r
          exact ⟨h1.en.trans h2.1, h1.eR.trans h2.2⟩
        obtain ⟨pv, hpv⟩ : ∃ pv, pv = pvS A n i := ⟨_, rfl⟩
        rw [← hpv]
        simp only [go_sem, ← hRe, mkLo]
        refine ⟨by omega, ?_⟩
        refine loop_inv (fun r : Nat => stL 75 [(0, .one (.t (eL cMw a))), (6, .one (.ptr 900000 0)), (10, .one (.vec 53 1 0 i)), (11, litI .i64 (madeS A n i r).2), (55, litI .i64 i), (56, litI .i64 r)] (mkE 900000 (madM A n i r) [(53, cellsL cI1 (fnG i fun q => if q < r then pv q else 0))])) (fun r => r ≤ i) (fun r => i - r) 0 ?_ (Nat.zero_le _) ?_
        · show Abs.GStep _ (stL 75 _ (mkE 900000 (filM A n i i) _))
          (refine gstep_list rfl ?_ ?_ ?_ ?_ <;> (try simp only [go_sem, tail_one, hrf0, zI1, mkLo, mk_ctl, AtM_upd, cellsL_refs]) <;> (try simp only [true_or, or_true, or_false, beq_self_eq_true, and_self, true_and, and_true]))
          · exact .inl rfl
          · have e : fnG i (fun _ => (0 : Int)) = fnG i (fun q => if q < 0 then pv q else 0) := fnG_congr fun q _ => (if_neg (Nat.not_lt_zero _)).symm
            rw [e]
        · intro r hr
          simp only [go_sem]
          refine CondR_if (fun hlr => ?_) (fun hgr => ?_)
          · have hlr' : r < i := by omega
            have sd1 := cI1_sd (n := i) (g := fun q => if q < r then pv q else 0) hlr' (y := -1)
            have cl := fun g => cI1_clen (n := i) (g := g)
            have rp := hdN r (by omega)
            obtain ⟨nr, Rr⟩ := hd1 r (by omega)
            obtain ⟨nr', Rr'⟩ := hd1 (r + 1) (by omega)
            have rp' := hdN (r + 1) hlr'
            have hkle := madeS_le (a := A) (n := n) (R := i) r
            have hrow := h_row (madM A n i r) (madeS A n i r).1 r (madeS A n i r).2 (K := K) (T := fuE (madeS A n i r).1 r (madeS A n i r).2) hK rp (by unfold MX.N; omega) (by omega) (by omega) (hb r hlr')
            have hS2 : (madeS A n i (r + 1)).2 = if (rowH (madeS A n i r).1 r (madeS A n i r).2).2 then (madeS A n i r).2 + 1 else (madeS A n i r).2 := rfl
            have hpr : pv r = if (rowH (madeS A n i r).1 r (madeS A n i r).2).2 then ((madeS A n i r).2 : Int) else -1 := by rw [hpv]; rfl
            have hM' : endM (itM (madM A n i r) r (madeS A n i r).2 (fuE (madeS A n i r).1 r (madeS A n i r).2)) r (madeS A n i r).2 = madM A n i (r + 1) := rfl
            have hbb : (endE (itE (madeS A n i r).1 r (madeS A n i r).2 (fuE (madeS A n i r).1 r (madeS A n i r).2)) r (madeS A n i r).2).2 = (rowH (madeS A n i r).1 r (madeS A n i r).2).2 := rfl
            rw [hM', hbb] at hrow
            generalize (rowH (madeS A n i r).1 r (madeS A n i r).2).2 = bb at hrow hS2 hpr
            simp only [go_sem, mkLo, cl, sd1, hlr]
            (repeat (refine And.intro (by omega) ?_))
            refine call_mk (M := madM A n i r) (M' := madM A n i (r + 1)) 900000 (.inr rfl) hrow rp.ok (nr'.trans nr.symm) (Rr'.trans Rr.symm) rfl args3 (by simp only [go_sem, mkLo, AtM_upd]) ?_
            have hrf1 : ∀ D e, refsH (mkD 900000 (madM A n i (r + 1)) D) (mkE 900000 (madM A n i (r + 1)) e) = refsH (mkD 900000 (madM A n i (r + 1)) D) e := fun D e => refsH_mk rp'.ok
            have hlo : lookH (mkL 900000 (madM A n i (r + 1))) 53 = none := mkL_lo (by omega)
            simp only [go_sem, hlo, Option.none_or]
            cases bb with
            | true =>
              have hS2 : (madeS A n i (r + 1)).2 = (madeS A n i r).2 + 1 := hS2
              have hpr : pv r = ((madeS A n i r).2 : Int) := hpr
              have sd2 := cI1_sd (n := i) (g := fun v => if v = r then (-1 : Int) else if v < r then pv v else 0) hlr' (y := ((madeS A n i r).2 : Int))
              simp only [go_sem, hlo, Option.none_or, cl, hlr, sd2]
              (repeat (refine And.intro (by omega) ?_))
              have hw : IntKind.i64.wrap (((madeS A n i r).2 : Int) + 1) = (((madeS A n i r).2 + 1 : Nat) : Int) := by rw [wrap_i64 (by omega) (by omega)]; omega
              refine ⟨r + 1, hlr', (by show i - (r + 1) < i - r; omega), ?_⟩
              (refine gstep_list rfl ?_ ?_ ?_ ?_ <;> (try simp only [go_sem, tail_one, hrf1, hS2, hw, hlo, Option.none_or, mkLo, mk_ctl, cellsL_refs, wrap_i64 (n := (r : Int) + 1) (by omega) (by omega)]) <;> (try simp only [true_or, or_true, or_false, beq_self_eq_true, and_self, true_and, and_true]))
              rw [AtM_upd (by omega)]
              refine ⟨at_or, ?_⟩
              have e : fnG i (fun v => if v = r then ((madeS A n i r).2 : Int) else if v = r then (-1 : Int) else if v < r then pv v else 0) = fnG i (fun q => if q < r + 1 then pv q else 0) := fnG_congr fun v hv => by
                by_cases e1 : v = r
                · rw [if_pos e1, if_pos (by omega), e1, hpr]
                · rw [if_neg e1, if_neg e1]
                  by_cases e2 : v < r
                  · rw [if_pos e2, if_pos (by omega)]
                  · rw [if_neg e2, if_neg (by omega)]
              rw [← e]
            | false =>
              have hS2 : (madeS A n i (r + 1)).2 = (madeS A n i r).2 := hS2
              have hpr : pv r = -1 := hpr
              simp only [go_sem]
              refine ⟨r + 1, hlr', (by show i - (r + 1) < i - r; omega), ?_⟩
              (refine gstep_list rfl ?_ ?_ ?_ ?_ <;> (try simp only [go_sem, tail_one, hrf1, hS2, hlo, Option.none_or, mkLo, mk_ctl, cellsL_refs, wrap_i64 (n := (r : Int) + 1) (by omega) (by omega)]) <;> (try simp only [true_or, or_true, or_false, beq_self_eq_true, and_self, true_and, and_true]))
              refine ⟨at_or, ?_⟩
              have e : fnG i (fun v => if v = r then (-1 : Int) else if v < r then pv v else 0) = fnG i (fun q => if q < r + 1 then pv q else 0) := fnG_congr fun v hv => by
                by_cases e1 : v = r
                · rw [if_pos e1, if_pos (by omega), e1, hpr]
                · rw [if_neg e1]
                  by_cases e2 : v < r
                  · rw [if_pos e2, if_pos (by omega)]
                  · rw [if_neg e2, if_neg (by omega)]
              rw [e]
          · obtain rfl : r = i := by omega
            simp only [go_sem]
            have e : fnG r (fun q => if q < r then pv q else 0) = fnG r pv := fnG_congr fun q hq => if_pos hq
            rw [e]
            obtain ⟨nM, RM⟩ := hd1 r (Nat.le_refl _)
            have rp := hdN r (Nat.le_refl _)
            obtain ⟨nS, RS⟩ := madeS_dim (a := A) (n := n) (R := r) r
            generalize madM A n r r = M at nM RM rp ⊢
            generalize (madeS A n r r).2 = kk
            generalize (madeS A n r r).1 = S at rp nS RS ⊢
            refine ⟨_, GStep.trans (gstep_frzF (b := 900100) (sz := 2) (len := n) (x := fun i => rowT n (M.g i)) (r + n + n) ?_) (GStep.trans (gstep_frz (b := 900001) (sz := 1) (len := r) (cs := cellsL (fun i => [rowT n (M.g (0 + i))]) (List.range r)) ?_ (headT (g := fun i => M.g (0 + i)))) (GStep.trans (gstep_frz (b := 900002) (sz := 1) (len := n) (cs := cellsL (fun i => [rowT n (M.g (r + i))]) (List.range n)) ?_ (headT (g := fun i => M.g (r + i)))) (GStep.trans (gstep_frz (b := 900003) (sz := 1) (len := n) (cs := cellsL (fun i => [rowT n (M.g (r + n + M.s i))]) (List.range n)) ?_ (headT (g := fun i => M.g (r + n + M.s i)))) (gstep_frz (b := 53) (sz := 1) (len := r) (cs := cellsL cI1 (fnG r pv)) (x := eL cI1 (fnG r pv)) ?_ ?_)))), ?_⟩
            · intro q hq
              refine ⟨cellsL cJ (fnG n (M.g q)), ?_, rowT_tree⟩
              have := mkKf (b := 900000) (M := M) (e := [(53, cellsL cI1 (fnG r pv))]) (i := q) (by unfold MX.N; omega)
              rw [nM] at this; exact this
            · simp only [go_sem]
              have := fF_rows (b := 900100) (n := r + n + n) (sz := 2) (len := n) (x := fun i => rowT n (M.g i)) (k := 0) (m := r) (by omega)
              simp only [Nat.zero_add, Nat.add_zero] at this
              rw [nM, RM]; exact this
            · simp only [go_sem]
              rw [nM, RM, fF_rows (by omega), fC_cells]
            · simp only [go_sem]
              rw [nM, RM, show 900100 + r + n = 900100 + (r + n) from Nat.add_assoc _ _ _, prmF (k := r + n) (fun i hi => by have := rp.ok i (by omega); omega), fC_cells, fC_cells]
            · simp only [go_sem, mkLo, fC_cells]
            · have := treeOf_L (f := cI1) (xs := fnG r pv) cI1_len
              rw [fnG_len] at this; exact this
            · have eH : rawM r n (fun i => M.g (0 + i)) = rawM S.R S.n S.h := by
                rw [nS, RS]
                exact rawM_congr fun i j hi hj => by rw [Nat.zero_add]; exact rp.h i j (by omega) (by omega)
              have eU : rawM n n (fun i => M.g (r + i)) = rawM S.n S.n S.u := by
                rw [nS]
                exact rawM_congr fun i j hi hj => by have := rp.u i j (by omega) (by omega); rw [RM] at this; exact this
              have eV : rawM n n (fun i => M.g (r + n + M.s i)) = rawM S.n S.n S.v := by
                rw [nS]
                exact rawM_congr fun i j hi hj => by have := rp.v i j (by omega) (by omega); rw [RM, nM] at this; exact this
              rw [eH, eU, eV]
              refine ⟨.inr rfl, fun x hx => ?_, ?_, fun b cs h => ?_⟩
              · rcases List.mem_cons.1 hx with rfl | hx
                · trivial
                · obtain rfl := List.mem_singleton.1 hx; trivial
              · refine congrArg AV.tup (List.cons_eq_cons.2 ⟨?_, List.cons_eq_cons.2 ⟨?_, rfl⟩⟩)
                · show St.s _ 4 = _
                  simp only [go_sem]
                · show St.s _ 5 = _
                  simp only [go_sem]
              · unfold outH at h
                have h : (if b = 900000 then some [C.t (eW (rawM S.R S.n S.h)), C.t (eW (rawM S.n S.n S.u)), C.t (eW (rawM S.n S.n S.v))] else none) = some cs := h
                by_cases e : b = 900000
                · rw [if_pos e] at h
                  rw [← h, e]
                  simp only [go_sem, nM, RM]
                · rw [if_neg e] at h; cases h
end Go.Proofs.YtjmbhknhiakkpaaGreat
namespace Go.Proofs.YtjmbhknhiakkpaaGreat
open Go Go.Abs
set_option maxHeartbeats 32000000
/-! ### Sums of products; a function is handed over that reads some blocks -/
structure LK (l : List (Nat × List C)) : Prop where
  key : ∀ k ∈ l.map (·.1), PIN ≤ k
  refs : refsH (l.map (·.1)) l = true
  all : ∀ σ : St, (∀ b cs, lookH l b = some cs → σ.H b = some cs) → AllH σ l
theorem LK.all' {l : List (Nat × List C)} (h : LK l) {σ : St} (hH : ∀ b, PIN ≤ b → σ.H b = lookH l b) : AllH σ l := h.all σ fun b cs hb => by
  have hm : b ∈ l.map (·.1) := Classical.byContradiction fun hn => by rw [lookH_none hn] at hb; cases hb
  rw [hH b (h.key b hm), hb]
section
variable {l e : List (Nat × List C)} {D : List Nat} {t : Nat}
theorem LK.lo (h : LK l) (ht : t < 1000000) : lookH (l ++ e) t = lookH e t := by
  rw [lookH_app, lookH_none fun hm => by have := h.key t hm; have : PIN = 1000000 := rfl; omega]; rfl
theorem LK.refs' (h : LK l) : refsH (l.map Prod.fst ++ D) (l ++ e) = refsH (l.map Prod.fst ++ D) e := by
  rw [refsH_append]
  have : refsH (l.map Prod.fst ++ D) l = true := by
    have h1 : ∀ (D : List Nat) (l0 : List (Nat × List C)), refsH D l0 = true → ∀ D', (∀ x ∈ D, x ∈ D') → refsH D' l0 = true := fun D l0 h0 D' hD => by
      induction l0 with
      | nil => rfl
      | cons p l0 ih =>
        obtain ⟨k, v⟩ := p
        have h0 : (v.all (refsC D) && refsH D l0) = true := h0
        rw [Bool.and_eq_true, List.all_eq_true] at h0
        show (v.all (refsC D') && refsH D' l0) = true
        rw [Bool.and_eq_true, List.all_eq_true]
        exact ⟨fun c hc => refsC_mono hD (h0.1 c hc), ih h0.2⟩
    exact h1 _ l h.refs _ fun x hx => List.mem_append_left _ hx
  rw [this, Bool.true_and]
theorem LK.ct (h : LK l) (ht : t < 1000000) : (l.map Prod.fst ++ D).contains t = D.contains t := by
  rw [Bool.eq_iff_iff, List.contains_iff_mem, List.contains_iff_mem, List.mem_append]
  exact ⟨fun h2 => h2.elim (fun hm => by have := h.key t hm; have : PIN = 1000000 := rfl; omega) id, .inr⟩
theorem LK.hi {b : Nat} (hb : PIN ≤ b) (he : ∀ k ∈ e.map (·.1), k < PIN) : lookH (l ++ e) b = lookH l b := by
  rw [lookH_app, lookH_none (l := e) fun hm => by have := he b hm; omega]
  cases lookH l b <;> rfl
theorem LK.look (h : LK l) : ∀ b cs, lookH l b = some cs → lookH (l ++ e) b = some cs := fun b cs hb => by rw [lookH_app, hb]; rfl
end
theorem rdc_mono {f : FuncId} {ys : List AV} {H H' : Heap} {r : AV} (h : RdC Tryz.prog f ys H r) (hH : ∀ b cs, H b = some cs → H' b = some cs) : RdC Tryz.prog f ys H' r :=
  fun H2 h2 => h H2 fun b cs hb => h2 b cs (hH b cs hb)
set_option maxRecDepth 100000 in
theorem h_sum (l : List (Nat × List C)) (hl : LK l) (F : FuncId) (caps : List (Nat × Nat)) (hc : ∀ p ∈ caps, p.1 ∈ l.map (·.1)) (n : Nat) (x y : Nat → RI) {A : Nat} (hA : A ≤ 10000000000) (hn : n < 1000000)
    (hx : ∀ i, i < n → (x i).2.length ≤ A) (hy : ∀ i, i < n → (y i).2.length ≤ A)
    (hF : ∀ i, i < n → RdC Tryz.prog F (litI .i64 i :: caps.map capA) (lookH l) (.tup [.agg ((cI (x i)).map .t), .agg ((cI (y i)).map .t)])) :
    MCall Tryz.prog 33 [litI .i64 n, .one (.fn F caps)] (lookH l) (.agg ((cJ (smI (fun i => vR (x i) * vR (y i)) n)).map .t)) (lookH l) := by
  obtain ⟨S, hS⟩ : ∃ S : Nat → Int, S = fun m => smI (fun i => vR (x i) * vR (y i)) m := ⟨_, rfl⟩
  have hS0 : S 0 = 0 := by rw [hS]; rfl
  have hSs : ∀ m, S (m + 1) = S m + vR (x m) * vR (y m) := fun m => by rw [hS]; rfl
  have hSn : smI (fun i => vR (x i) * vR (y i)) n = S n := by rw [hS]
  have hSl : ∀ m, m ≤ n → lN (S m) ≤ 2 * A + m := by
    intro m
    induction m with
    | zero => intro _; rw [hS0]; unfold lN; simp [dig_zero]
    | succ m ih =>
      intro hm
      have h1 := ih (by omega)
      have h2 := lN_add (S m) (vR (x m) * vR (y m))
      have h3 := lN_mul (vR (x m)) (vR (y m))
      have h4 : lN (vR (x m)) ≤ (x m).2.length := lN_iv (x m).1 (x m).2
      have h5 : lN (vR (y m)) ≤ (y m).2.length := lN_iv (y m).1 (y m).2
      have h6 := hx m (by omega)
      have h7 := hy m (by omega)
      rw [hSs]
      omega
  rw [hSn]
  have hcapD : ∀ D, caps.all (fun p => (l.map Prod.fst ++ D).contains p.1) = true := fun D => List.all_eq_true.2 fun p hp => List.contains_iff_mem.2 (List.mem_append_left _ (hc p hp))
  refine mcall_of_wpX mixed Tryz.call33 Tryz.func33 rfl Tryz.ntmps33 Tryz.results33 (by simp) (by decide) ?_ ?_ ?_ ?_ ?_
  · exact low_of hl.key
  · exact fun b => Iff.rfl
  · exact cl_of_refs hl.refs
  · exact fun c hc => by obtain ⟨t, _, rfl⟩ := List.mem_map.1 hc; trivial
  · have hz : cJ 0 = [.lit (.bool false), eN []] := by show [T.lit (.bool (decide ((0 : Int) < 0))), eN (dig 0)] = _; rw [dig_zero]; rfl
    have lo0 : ∀ t, t < 1000000 → lookH l t = none := fun t h => by have := hl.lo (e := []) h; rw [List.append_nil] at this; exact this
    have lo := fun t e (h : t < 1000000) => hl.lo (e := e) h
    have rf := fun D e => hl.refs' (D := D) (e := e)
    have ct := fun t D (h : t < 1000000) => hl.ct (D := D) h
    simp only [go_sem, PIN, lo, lo0]
    refine loop_inv (fun i : Nat => stL 27 [(1, .one (.fn F caps)), (4, .one (.ptr 4 0)), (5, .one (.ptr 5 0)), (10, litI .i64 n), (11, litI .i64 i)]
      (l ++ [(5, (cJ (S i)).map .t), (4, [.t (.lit (.bool false)), .t (.seq none [])])])) (fun i => i ≤ n) (fun i => n - i) 0 ?_ (Nat.zero_le _) ?_
    · have zc : WeakL [C.t (T.lit (Value.bool false)), C.t (T.seq (some true) [])] [C.t (T.lit (Value.bool false)), C.t (T.seq none [])] := .cons .refl (.cons .seq .nil)
      refine GStep.trans (gstep_weakH 4 (cs := [C.t (T.lit (Value.bool false)), C.t (T.seq (some true) [])]) (by simp only [go_sem]) zc) (GStep.trans (gstep_weakH 5 (cs := [C.t (T.lit (Value.bool false)), C.t (T.seq (some true) [])]) (by simp only [go_sem]) zc) ?_)
      rw [hS0, hz]
      (refine gstep_list rfl ?_ ?_ ?_ ?_ <;> (try simp only [go_sem, tail_one, lo, lo0, rf, ct, hcapD, AllH_app]) <;> (try simp only [true_or, or_true, or_false, beq_self_eq_true, and_self, true_and, and_true]))
      · refine ⟨hl.all' ?_, rfl⟩
        repeat (first | exact fun _ _ => rfl | refine upd_hi (by decide) ?_)
      · rfl
    · intro i hi
      simp only [go_sem]
      refine CondR_if (fun hlt => ?_) (fun hge => ?_)
      · have hlt' : i < n := by omega
        have rd := hF i hlt'
        have o1 := w_Mul (x i).1 (x i).2 (y i).1 (y i).2 (by have := hx i hlt'; omega) (by have := hy i hlt'; omega)
        have hb1 := hSl i hi
        have h3 := lN_mul (vR (x i)) (vR (y i))
        have h4 : lN (vR (x i)) ≤ (x i).2.length := lN_iv (x i).1 (x i).2
        have h5 : lN (vR (y i)) ≤ (y i).2.length := lN_iv (y i).1 (y i).2
        have h6 := hx i hlt'
        have h7 := hy i hlt'
        have o2 := w_Add_e (S i) (vR (x i) * vR (y i)) (by omega) (by omega)
        rw [← hSs i] at o2
        simp only [go_sem]
        refine call_rd2 (.inr rfl) (rdc_mono rd fun b cs hb => hl.look b cs hb) ?_
        simp only [go_sem, lo, cI]
        ((repeat (refine regA_by 0 rfl ?_; simp only [go_sem, lo, cI])); refine call_pure (o1) rfl ?_; simp only [go_sem, lo, cI]; (repeat (refine regA_by 0 rfl ?_; simp only [go_sem, lo, cI])); refine call_pure (o2) rfl ?_; simp only [go_sem, lo, cI]; (repeat (refine regA_by 0 rfl ?_; simp only [go_sem, lo, cI])))
        refine ⟨i + 1, hlt', (by show n - (i + 1) < n - i; omega), ?_⟩
        (refine gstep_list rfl ?_ ?_ ?_ ?_ <;> (try simp only [go_sem, tail_one, lo, lo0, rf, ct, hcapD, AllH_app, wrap_i64 (n := (i : Int) + 1) (by omega) (by omega)]) <;> (try simp only [true_or, or_true, or_false, beq_self_eq_true, and_self, true_and, and_true]))
        · refine hl.all' ?_
          have h1 : ∀ b, PIN ≤ b → lookH (l ++ [(5, [C.t (T.lit (Value.bool (decide (S i < 0)))), C.t (eN (dig (S i).natAbs))]), (4, [C.t (T.lit (Value.bool false)), C.t (T.seq none [])])]) b = lookH l b := fun b hb =>
            LK.hi hb fun k hk => by simp at hk; have : PIN = 1000000 := rfl; omega
          repeat (first | exact h1 | refine upd_hi (by decide) ?_)
        · rfl
      · obtain rfl : i = n := by omega
        simp only [go_sem, lo]
        refine xret1 (.inr rfl) ?_ ?_ ?_
        · simp only [go_sem, lo]
        · simp only [go_sem, lo]
        · simp only [go_sem, lo]
          have h1 : ∀ b, PIN ≤ b → lookH (l ++ [(5, [C.t (T.lit (Value.bool (decide (S i < 0)))), C.t (eN (dig (S i).natAbs))]), (4, [C.t (T.lit (Value.bool false)), C.t (T.seq none [])])]) b = lookH l b := fun b hb =>
            LK.hi hb fun k hk => by simp at hk; have : PIN = 1000000 := rfl; omega
          exact fun b hb => by rw [if_neg (by have : PIN = 1000000 := rfl; omega)]; exact h1 b hb
end Go.Proofs.YtjmbhknhiakkpaaGreat
