/- At every input the call answers true and leaves its arguments as they were; no conditions. -/
import Derived.Test.YtgnfgaioeldagaaGreatVj
set_option linter.unusedSimpArgs false
set_option linter.unusedVariables false
namespace Go.Proofs.YtgnfgaioeldagaaGreat
open Go Go.Abs
set_option maxHeartbeats 64000000
theorem cmp_eq0 (a b : Int) : decide (cmpI a b = 0) = decide (a = b) := by
  unfold cmpI
  rw [decide_eq_decide]
  constructor
  · intro h
    split at h
    · cases h
    · split at h
      · cases h
      · omega
  · rintro rfl
    rw [if_neg (by omega), if_neg (by omega)]
theorem two_dist (a b : VR) : twiceV [a, b] = decide (a = b) := by
  show ([b].contains a || (([] : List VR).contains b || false)) = _
  simp
theorem enc_inj2 {x y : Int} : encZ x = encZ y ↔ x = y := ⟨fun h => by rw [← zv_enc x, h, zv_enc], fun h => by rw [h]⟩
theorem pair_int (A B : Int) : decide (((2 : Int), encZ A) = (2, encZ B)) = decide (A = B) := decide_eq_decide.2 ⟨fun h => enc_inj2.1 (Prod.ext_iff.1 h).2, fun h => by rw [h]⟩
theorem pair_bool (x y : Bool) : decide (boolV x = boolV y) = (x == y) := by
  have h : boolV x = boolV y ↔ x = y := ⟨fun h => by rw [← yes_bool x, h, yes_bool], fun h => by rw [h]⟩
  rw [decide_eq_decide.2 h]
  cases x <;> cases y <;> rfl
theorem wpS_cut {P : Program} {ks : List Bool} {x y : Code} {Q : Exit → St → Prop} {σ : St} (S : St) (h : wpA P x (fun e σ' => e = .normal ∧ Abs.GStep σ' S) σ) (h2 : wpS P ks y Q S) : wpS P (true :: ks) (.seq x y) Q σ := by
  show wpA P x (seqQ (pauQ true (wpS P ks y Q)) Q) σ
  refine wpA_mono x _ _ (fun e σ' hq => ?_) σ h
  obtain ⟨rfl, hg⟩ := hq
  exact ⟨S, hg, h2⟩
theorem bneFF : (false != false) = false := rfl
theorem bneTT : (true != true) = false := rfl
theorem bneTF : (true != false) = true := rfl
theorem bneFT : (false != true) = true := rfl
theorem beqFF : (false == false) = true := rfl
theorem beqTT : (true == true) = true := rfl
theorem beqTF : (true == false) = false := rfl
theorem beqFT : (false == true) = false := rfl
theorem KT.GT {t : Tm} (kt : KT t) (h1 : fewT t = true) (h2 : isT t = true) : GT t := ⟨(fewT_FT h1).1, kt, h2, (fewT_FT h1).2⟩
set_option maxRecDepth 100000 in
theorem p_ValueRules (hS : SmallSpec) (hI : IdxSpec) (hC : CmpSpec) (p : Tm) (kp : KT p) (q : Tm) (kq : KT q) (a : Tm) (ka : KT a) (b : Tm) (kb : KT b) (m : List Fu) (km : KM m) (d : Int) (d1 : -32768 ≤ d) (d2 : d < 32768) : PCall Tryz.prog 4 [gT p, gT q, gT a, gT b, tLF m, tI .i16 d] (tB true) := by
  have hk := known12 hS hI hC
  have fp := fewTerm12 p kp
  rw [show gT p = TV.agg (cT p) from rfl, cT_eq] at fp
  have fq := fewTerm12 q kq
  rw [show gT q = TV.agg (cT q) from rfl, cT_eq] at fq
  have fa := fewTerm12 a ka
  rw [show gT a = TV.agg (cT a) from rfl, cT_eq] at fa
  have fb := fewTerm12 b kb
  rw [show gT b = TV.agg (cT b) from rfl, cT_eq] at fb
  have fm := fewFuns12 m km
  refine pcall_of_wpS [true, false, false, true, true] mixed Tryz.call4 Tryz.func4 rfl Tryz.ntmps4 Tryz.results4 (by simp) (by decide) ?_
  simp only [go_sem, cT_eq]
  refine pau (stL 270 [(4, .one (.t (eL cFu m))), (5, litI .i16 d), (6, .iptr [.lit (.int .i64 p.op), .lit (.bool p.num.1), eN p.num.2, .lit (.string p.name), .lit (.int .i64 p.sort), eL cT p.kids]), (7, .iptr [.lit (.int .i64 q.op), .lit (.bool q.num.1), eN q.num.2, .lit (.string q.name), .lit (.int .i64 q.sort), eL cT q.kids]), (8, .iptr [.lit (.int .i64 a.op), .lit (.bool a.num.1), eN a.num.2, .lit (.string a.name), .lit (.int .i64 a.sort), eL cT a.kids]), (9, .iptr [.lit (.int .i64 b.op), .lit (.bool b.num.1), eN b.num.2, .lit (.string b.name), .lit (.int .i64 b.sort), eL cT b.kids])] []) ?_ ?_
  · refine GStep.trans (gstep_frzX [(6, [.lit (.int .i64 p.op), .lit (.bool p.num.1), eN p.num.2, .lit (.string p.name), .lit (.int .i64 p.sort), eL cT p.kids]), (7, [.lit (.int .i64 q.op), .lit (.bool q.num.1), eN q.num.2, .lit (.string q.name), .lit (.int .i64 q.sort), eL cT q.kids]), (8, [.lit (.int .i64 a.op), .lit (.bool a.num.1), eN a.num.2, .lit (.string a.name), .lit (.int .i64 a.sort), eL cT a.kids]), (9, [.lit (.int .i64 b.op), .lit (.bool b.num.1), eN b.num.2, .lit (.string b.name), .lit (.int .i64 b.sort), eL cT b.kids])] (by simp only [go_sem] <;> simp)) ?_
    (refine gstep_list rfl ?_ ?_ ?_ ?_ <;> (try simp only [go_sem, tail_one]) <;> (try simp))
  cases cp : fewT p with
  | false =>
    rw [cp] at fp
    simp only [go_sem]
    ((repeat (refine regA_by 0 rfl ?_; simp only [go_sem])); refine call_pure (hk) rfl ?_; simp only [go_sem]; (repeat (refine regA_by 0 rfl ?_; simp only [go_sem])); refine call_pure (fp) rfl ?_; simp only [go_sem]; (repeat (refine regA_by 0 rfl ?_; simp only [go_sem])))
  | true =>
  rw [cp] at fp
  cases cq : fewT q with
  | false =>
    rw [cq] at fq
    simp only [go_sem]
    ((repeat (refine regA_by 0 rfl ?_; simp only [go_sem])); refine call_pure (hk) rfl ?_; simp only [go_sem]; (repeat (refine regA_by 0 rfl ?_; simp only [go_sem])); refine call_pure (fp) rfl ?_; simp only [go_sem]; (repeat (refine regA_by 0 rfl ?_; simp only [go_sem])); refine call_pure (fq) rfl ?_; simp only [go_sem]; (repeat (refine regA_by 0 rfl ?_; simp only [go_sem])))
  | true =>
  rw [cq] at fq
  cases ca : fewT a with
  | false =>
    rw [ca] at fa
    simp only [go_sem]
    ((repeat (refine regA_by 0 rfl ?_; simp only [go_sem])); refine call_pure (hk) rfl ?_; simp only [go_sem]; (repeat (refine regA_by 0 rfl ?_; simp only [go_sem])); refine call_pure (fp) rfl ?_; simp only [go_sem]; (repeat (refine regA_by 0 rfl ?_; simp only [go_sem])); refine call_pure (fq) rfl ?_; simp only [go_sem]; (repeat (refine regA_by 0 rfl ?_; simp only [go_sem])); refine call_pure (fa) rfl ?_; simp only [go_sem]; (repeat (refine regA_by 0 rfl ?_; simp only [go_sem])))
  | true =>
  rw [ca] at fa
  cases cb : fewT b with
  | false =>
    rw [cb] at fb
    simp only [go_sem]
    ((repeat (refine regA_by 0 rfl ?_; simp only [go_sem])); refine call_pure (hk) rfl ?_; simp only [go_sem]; (repeat (refine regA_by 0 rfl ?_; simp only [go_sem])); refine call_pure (fp) rfl ?_; simp only [go_sem]; (repeat (refine regA_by 0 rfl ?_; simp only [go_sem])); refine call_pure (fq) rfl ?_; simp only [go_sem]; (repeat (refine regA_by 0 rfl ?_; simp only [go_sem])); refine call_pure (fa) rfl ?_; simp only [go_sem]; (repeat (refine regA_by 0 rfl ?_; simp only [go_sem])); refine call_pure (fb) rfl ?_; simp only [go_sem]; (repeat (refine regA_by 0 rfl ?_; simp only [go_sem])))
  | true =>
  rw [cb] at fb
  cases cm : fmB m with
  | false =>
    rw [cm] at fm
    simp only [go_sem]
    ((repeat (refine regA_by 0 rfl ?_; simp only [go_sem])); refine call_pure (hk) rfl ?_; simp only [go_sem]; (repeat (refine regA_by 0 rfl ?_; simp only [go_sem])); refine call_pure (fp) rfl ?_; simp only [go_sem]; (repeat (refine regA_by 0 rfl ?_; simp only [go_sem])); refine call_pure (fq) rfl ?_; simp only [go_sem]; (repeat (refine regA_by 0 rfl ?_; simp only [go_sem])); refine call_pure (fa) rfl ?_; simp only [go_sem]; (repeat (refine regA_by 0 rfl ?_; simp only [go_sem])); refine call_pure (fb) rfl ?_; simp only [go_sem]; (repeat (refine regA_by 0 rfl ?_; simp only [go_sem])); refine call_pure (fm) rfl ?_; simp only [go_sem]; (repeat (refine regA_by 0 rfl ?_; simp only [go_sem])))
  | true =>
  rw [cm] at fm
  have ip := r_Is p (fewT_FT cp).1 kp
  rw [show gT p = TV.agg (cT p) from rfl, cT_eq] at ip
  have iq := r_Is q (fewT_FT cq).1 kq
  rw [show gT q = TV.agg (cT q) from rfl, cT_eq] at iq
  have ia := r_Is a (fewT_FT ca).1 ka
  rw [show gT a = TV.agg (cT a) from rfl, cT_eq] at ia
  have ib := r_Is b (fewT_FT cb).1 kb
  rw [show gT b = TV.agg (cT b) from rfl, cT_eq] at ib
  cases tp : isT p with
  | false =>
    rw [tp] at ip
    simp only [go_sem]
    ((repeat (refine regA_by 0 rfl ?_; simp only [go_sem])); refine call_pure (hk) rfl ?_; simp only [go_sem]; (repeat (refine regA_by 0 rfl ?_; simp only [go_sem])); refine call_pure (fp) rfl ?_; simp only [go_sem]; (repeat (refine regA_by 0 rfl ?_; simp only [go_sem])); refine call_pure (fq) rfl ?_; simp only [go_sem]; (repeat (refine regA_by 0 rfl ?_; simp only [go_sem])); refine call_pure (fa) rfl ?_; simp only [go_sem]; (repeat (refine regA_by 0 rfl ?_; simp only [go_sem])); refine call_pure (fb) rfl ?_; simp only [go_sem]; (repeat (refine regA_by 0 rfl ?_; simp only [go_sem])); refine call_pure (fm) rfl ?_; simp only [go_sem]; (repeat (refine regA_by 0 rfl ?_; simp only [go_sem])); refine call_pure (ip) rfl ?_; simp only [go_sem]; (repeat (refine regA_by 0 rfl ?_; simp only [go_sem])))
  | true =>
  rw [tp] at ip
  cases tq : isT q with
  | false =>
    rw [tq] at iq
    simp only [go_sem]
    ((repeat (refine regA_by 0 rfl ?_; simp only [go_sem])); refine call_pure (hk) rfl ?_; simp only [go_sem]; (repeat (refine regA_by 0 rfl ?_; simp only [go_sem])); refine call_pure (fp) rfl ?_; simp only [go_sem]; (repeat (refine regA_by 0 rfl ?_; simp only [go_sem])); refine call_pure (fq) rfl ?_; simp only [go_sem]; (repeat (refine regA_by 0 rfl ?_; simp only [go_sem])); refine call_pure (fa) rfl ?_; simp only [go_sem]; (repeat (refine regA_by 0 rfl ?_; simp only [go_sem])); refine call_pure (fb) rfl ?_; simp only [go_sem]; (repeat (refine regA_by 0 rfl ?_; simp only [go_sem])); refine call_pure (fm) rfl ?_; simp only [go_sem]; (repeat (refine regA_by 0 rfl ?_; simp only [go_sem])); refine call_pure (ip) rfl ?_; simp only [go_sem]; (repeat (refine regA_by 0 rfl ?_; simp only [go_sem])); refine call_pure (iq) rfl ?_; simp only [go_sem]; (repeat (refine regA_by 0 rfl ?_; simp only [go_sem])))
  | true =>
  rw [tq] at iq
  cases ta : isT a with
  | false =>
    rw [ta] at ia
    simp only [go_sem]
    ((repeat (refine regA_by 0 rfl ?_; simp only [go_sem])); refine call_pure (hk) rfl ?_; simp only [go_sem]; (repeat (refine regA_by 0 rfl ?_; simp only [go_sem])); refine call_pure (fp) rfl ?_; simp only [go_sem]; (repeat (refine regA_by 0 rfl ?_; simp only [go_sem])); refine call_pure (fq) rfl ?_; simp only [go_sem]; (repeat (refine regA_by 0 rfl ?_; simp only [go_sem])); refine call_pure (fa) rfl ?_; simp only [go_sem]; (repeat (refine regA_by 0 rfl ?_; simp only [go_sem])); refine call_pure (fb) rfl ?_; simp only [go_sem]; (repeat (refine regA_by 0 rfl ?_; simp only [go_sem])); refine call_pure (fm) rfl ?_; simp only [go_sem]; (repeat (refine regA_by 0 rfl ?_; simp only [go_sem])); refine call_pure (ip) rfl ?_; simp only [go_sem]; (repeat (refine regA_by 0 rfl ?_; simp only [go_sem])); refine call_pure (iq) rfl ?_; simp only [go_sem]; (repeat (refine regA_by 0 rfl ?_; simp only [go_sem])); refine call_pure (ia) rfl ?_; simp only [go_sem]; (repeat (refine regA_by 0 rfl ?_; simp only [go_sem])))
  | true =>
  rw [ta] at ia
  cases tb : isT b with
  | false =>
    rw [tb] at ib
    simp only [go_sem]
    ((repeat (refine regA_by 0 rfl ?_; simp only [go_sem])); refine call_pure (hk) rfl ?_; simp only [go_sem]; (repeat (refine regA_by 0 rfl ?_; simp only [go_sem])); refine call_pure (fp) rfl ?_; simp only [go_sem]; (repeat (refine regA_by 0 rfl ?_; simp only [go_sem])); refine call_pure (fq) rfl ?_; simp only [go_sem]; (repeat (refine regA_by 0 rfl ?_; simp only [go_sem])); refine call_pure (fa) rfl ?_; simp only [go_sem]; (repeat (refine regA_by 0 rfl ?_; simp only [go_sem])); refine call_pure (fb) rfl ?_; simp only [go_sem]; (repeat (refine regA_by 0 rfl ?_; simp only [go_sem])); refine call_pure (fm) rfl ?_; simp only [go_sem]; (repeat (refine regA_by 0 rfl ?_; simp only [go_sem])); refine call_pure (ip) rfl ?_; simp only [go_sem]; (repeat (refine regA_by 0 rfl ?_; simp only [go_sem])); refine call_pure (iq) rfl ?_; simp only [go_sem]; (repeat (refine regA_by 0 rfl ?_; simp only [go_sem])); refine call_pure (ia) rfl ?_; simp only [go_sem]; (repeat (refine regA_by 0 rfl ?_; simp only [go_sem])); refine call_pure (ib) rfl ?_; simp only [go_sem]; (repeat (refine regA_by 0 rfl ?_; simp only [go_sem])))
  | true =>
  rw [tb] at ib
  cases sp : decide (p.sort = 1) with
  | false =>
    simp only [go_sem, dne, sp]
    ((repeat (refine regA_by 0 rfl ?_; simp only [go_sem, dne, sp])); refine call_pure (hk) rfl ?_; simp only [go_sem, dne, sp]; (repeat (refine regA_by 0 rfl ?_; simp only [go_sem, dne, sp])); refine call_pure (fp) rfl ?_; simp only [go_sem, dne, sp]; (repeat (refine regA_by 0 rfl ?_; simp only [go_sem, dne, sp])); refine call_pure (fq) rfl ?_; simp only [go_sem, dne, sp]; (repeat (refine regA_by 0 rfl ?_; simp only [go_sem, dne, sp])); refine call_pure (fa) rfl ?_; simp only [go_sem, dne, sp]; (repeat (refine regA_by 0 rfl ?_; simp only [go_sem, dne, sp])); refine call_pure (fb) rfl ?_; simp only [go_sem, dne, sp]; (repeat (refine regA_by 0 rfl ?_; simp only [go_sem, dne, sp])); refine call_pure (fm) rfl ?_; simp only [go_sem, dne, sp]; (repeat (refine regA_by 0 rfl ?_; simp only [go_sem, dne, sp])); refine call_pure (ip) rfl ?_; simp only [go_sem, dne, sp]; (repeat (refine regA_by 0 rfl ?_; simp only [go_sem, dne, sp])); refine call_pure (iq) rfl ?_; simp only [go_sem, dne, sp]; (repeat (refine regA_by 0 rfl ?_; simp only [go_sem, dne, sp])); refine call_pure (ia) rfl ?_; simp only [go_sem, dne, sp]; (repeat (refine regA_by 0 rfl ?_; simp only [go_sem, dne, sp])); refine call_pure (ib) rfl ?_; simp only [go_sem, dne, sp]; (repeat (refine regA_by 0 rfl ?_; simp only [go_sem, dne, sp])))
  | true =>
  cases sq : decide (q.sort = 1) with
  | false =>
    simp only [go_sem, dne, sp, sq]
    ((repeat (refine regA_by 0 rfl ?_; simp only [go_sem, dne, sp, sq])); refine call_pure (hk) rfl ?_; simp only [go_sem, dne, sp, sq]; (repeat (refine regA_by 0 rfl ?_; simp only [go_sem, dne, sp, sq])); refine call_pure (fp) rfl ?_; simp only [go_sem, dne, sp, sq]; (repeat (refine regA_by 0 rfl ?_; simp only [go_sem, dne, sp, sq])); refine call_pure (fq) rfl ?_; simp only [go_sem, dne, sp, sq]; (repeat (refine regA_by 0 rfl ?_; simp only [go_sem, dne, sp, sq])); refine call_pure (fa) rfl ?_; simp only [go_sem, dne, sp, sq]; (repeat (refine regA_by 0 rfl ?_; simp only [go_sem, dne, sp, sq])); refine call_pure (fb) rfl ?_; simp only [go_sem, dne, sp, sq]; (repeat (refine regA_by 0 rfl ?_; simp only [go_sem, dne, sp, sq])); refine call_pure (fm) rfl ?_; simp only [go_sem, dne, sp, sq]; (repeat (refine regA_by 0 rfl ?_; simp only [go_sem, dne, sp, sq])); refine call_pure (ip) rfl ?_; simp only [go_sem, dne, sp, sq]; (repeat (refine regA_by 0 rfl ?_; simp only [go_sem, dne, sp, sq])); refine call_pure (iq) rfl ?_; simp only [go_sem, dne, sp, sq]; (repeat (refine regA_by 0 rfl ?_; simp only [go_sem, dne, sp, sq])); refine call_pure (ia) rfl ?_; simp only [go_sem, dne, sp, sq]; (repeat (refine regA_by 0 rfl ?_; simp only [go_sem, dne, sp, sq])); refine call_pure (ib) rfl ?_; simp only [go_sem, dne, sp, sq]; (repeat (refine regA_by 0 rfl ?_; simp only [go_sem, dne, sp, sq])))
  | true =>
  cases sa : decide (a.sort = 2) with
  | false =>
    simp only [go_sem, dne, sp, sq, sa]
    ((repeat (refine regA_by 0 rfl ?_; simp only [go_sem, dne, sp, sq, sa])); refine call_pure (hk) rfl ?_; simp only [go_sem, dne, sp, sq, sa]; (repeat (refine regA_by 0 rfl ?_; simp only [go_sem, dne, sp, sq, sa])); refine call_pure (fp) rfl ?_; simp only [go_sem, dne, sp, sq, sa]; (repeat (refine regA_by 0 rfl ?_; simp only [go_sem, dne, sp, sq, sa])); refine call_pure (fq) rfl ?_; simp only [go_sem, dne, sp, sq, sa]; (repeat (refine regA_by 0 rfl ?_; simp only [go_sem, dne, sp, sq, sa])); refine call_pure (fa) rfl ?_; simp only [go_sem, dne, sp, sq, sa]; (repeat (refine regA_by 0 rfl ?_; simp only [go_sem, dne, sp, sq, sa])); refine call_pure (fb) rfl ?_; simp only [go_sem, dne, sp, sq, sa]; (repeat (refine regA_by 0 rfl ?_; simp only [go_sem, dne, sp, sq, sa])); refine call_pure (fm) rfl ?_; simp only [go_sem, dne, sp, sq, sa]; (repeat (refine regA_by 0 rfl ?_; simp only [go_sem, dne, sp, sq, sa])); refine call_pure (ip) rfl ?_; simp only [go_sem, dne, sp, sq, sa]; (repeat (refine regA_by 0 rfl ?_; simp only [go_sem, dne, sp, sq, sa])); refine call_pure (iq) rfl ?_; simp only [go_sem, dne, sp, sq, sa]; (repeat (refine regA_by 0 rfl ?_; simp only [go_sem, dne, sp, sq, sa])); refine call_pure (ia) rfl ?_; simp only [go_sem, dne, sp, sq, sa]; (repeat (refine regA_by 0 rfl ?_; simp only [go_sem, dne, sp, sq, sa])); refine call_pure (ib) rfl ?_; simp only [go_sem, dne, sp, sq, sa]; (repeat (refine regA_by 0 rfl ?_; simp only [go_sem, dne, sp, sq, sa])))
  | true =>
  cases sb : decide (b.sort = 2) with
  | false =>
    simp only [go_sem, dne, sp, sq, sa, sb]
    ((repeat (refine regA_by 0 rfl ?_; simp only [go_sem, dne, sp, sq, sa, sb])); refine call_pure (hk) rfl ?_; simp only [go_sem, dne, sp, sq, sa, sb]; (repeat (refine regA_by 0 rfl ?_; simp only [go_sem, dne, sp, sq, sa, sb])); refine call_pure (fp) rfl ?_; simp only [go_sem, dne, sp, sq, sa, sb]; (repeat (refine regA_by 0 rfl ?_; simp only [go_sem, dne, sp, sq, sa, sb])); refine call_pure (fq) rfl ?_; simp only [go_sem, dne, sp, sq, sa, sb]; (repeat (refine regA_by 0 rfl ?_; simp only [go_sem, dne, sp, sq, sa, sb])); refine call_pure (fa) rfl ?_; simp only [go_sem, dne, sp, sq, sa, sb]; (repeat (refine regA_by 0 rfl ?_; simp only [go_sem, dne, sp, sq, sa, sb])); refine call_pure (fb) rfl ?_; simp only [go_sem, dne, sp, sq, sa, sb]; (repeat (refine regA_by 0 rfl ?_; simp only [go_sem, dne, sp, sq, sa, sb])); refine call_pure (fm) rfl ?_; simp only [go_sem, dne, sp, sq, sa, sb]; (repeat (refine regA_by 0 rfl ?_; simp only [go_sem, dne, sp, sq, sa, sb])); refine call_pure (ip) rfl ?_; simp only [go_sem, dne, sp, sq, sa, sb]; (repeat (refine regA_by 0 rfl ?_; simp only [go_sem, dne, sp, sq, sa, sb])); refine call_pure (iq) rfl ?_; simp only [go_sem, dne, sp, sq, sa, sb]; (repeat (refine regA_by 0 rfl ?_; simp only [go_sem, dne, sp, sq, sa, sb])); refine call_pure (ia) rfl ?_; simp only [go_sem, dne, sp, sq, sa, sb]; (repeat (refine regA_by 0 rfl ?_; simp only [go_sem, dne, sp, sq, sa, sb])); refine call_pure (ib) rfl ?_; simp only [go_sem, dne, sp, sq, sa, sb]; (repeat (refine regA_by 0 rfl ?_; simp only [go_sem, dne, sp, sq, sa, sb])))
  | true =>
  obtain ⟨hm, h4⟩ := fmB_lim cm
  have hp1 := of_decide_eq_true sp
  have hq1 := of_decide_eq_true sq
  have ha2 := of_decide_eq_true sa
  have hb2 := of_decide_eq_true sb
  have gp := kp.GT cp tp
  have gq := kq.GT cq tq
  have ga := ka.GT ca ta
  have gb := kb.GT cb tb
  have yp := yes12 hS hI p m gp.1 gp.2.1 (by have := gp.2.2.2; omega) hm h4
  have yq := yes12 hS hI q m gq.1 gq.2.1 (by have := gq.2.2.2; omega) hm h4
  have ea := v_Eval hS hI a m ga.1 ga.2.1 (by have := ga.2.2.2; omega) hm h4
  have eb := v_Eval hS hI b m gb.1 gb.2.1 (by have := gb.2.2.2; omega) hm h4
  have lA := evalM_lim h4 ga.1 (t := a) (m := m) (by have := ga.2.2.2; omega)
  have lB := evalM_lim h4 gb.1 (t := b) (m := m) (by have := gb.2.2.2; omega)
  obtain ⟨x, hx⟩ : ∃ x, evalM p m = boolV x := ⟨_, val_bool (by have := evalM_of (m := m) tp; rwa [hp1] at this)⟩
  obtain ⟨y, hy⟩ : ∃ y, evalM q m = boolV y := ⟨_, val_bool (by have := evalM_of (m := m) tq; rwa [hq1] at this)⟩
  obtain ⟨A, hA⟩ : ∃ A, evalM a m = (2, encZ A) := ⟨_, val_int (by have := evalM_of (m := m) ta; rwa [ha2] at this)⟩
  obtain ⟨D, hD⟩ : ∃ D, evalM b m = (2, encZ D) := ⟨_, val_int (by have := evalM_of (m := m) tb; rwa [hb2] at this)⟩
  rw [yes_of hx] at yp
  rw [yes_of hy] at yq
  rw [hA] at ea lA
  rw [hD] at eb lB
  have lA : lN A < 1000000000 := lA
  have lB : lN D < 1000000000 := lB
  obtain ⟨m5, y5, v5⟩ := mk1 hS hI (op := 5) (a := p) (m := m) (by decide) (by decide) (by decide) (by decide) (wrong_bool1 hp1) gp hm h4
  rw [hx] at v5
  rw [yes_of (v5.trans (show _ = boolV (!x) by show boolV (!(yesV (boolV x))) = _; rw [yes_bool]))] at y5
  obtain ⟨m6, y6, _, v6⟩ := mk2 hS hI (op := 6) (a := p) (b := q) (m := m) (by decide) (by decide) (by decide) (by decide) (wrong_bool2 hp1 hq1 (by decide)) gp gq hm h4
  rw [hx, hy] at v6
  rw [yes_of (v6.trans (show _ = boolV (x && y) by show boolV (yesV (boolV x) && (yesV (boolV y) && true)) = _; rw [yes_bool, yes_bool, Bool.and_true]))] at y6
  obtain ⟨m7, y7, _, v7⟩ := mk2 hS hI (op := 7) (a := p) (b := q) (m := m) (by decide) (by decide) (by decide) (by decide) (wrong_bool2 hp1 hq1 (by decide)) gp gq hm h4
  rw [hx, hy] at v7
  rw [yes_of (v7.trans (show _ = boolV (x || y) by show boolV (yesV (boolV x) || (yesV (boolV y) || false)) = _; rw [yes_bool, yes_bool, Bool.or_false]))] at y7
  obtain ⟨m9, y9, _, v9⟩ := mk2 hS hI (op := 9) (a := p) (b := q) (m := m) (by decide) (by decide) (by decide) (by decide) (wrong_bool2 hp1 hq1 (by decide)) gp gq hm h4
  rw [hx, hy] at v9
  rw [yes_of (v9.trans (show _ = boolV (!x || y) by show boolV (!(yesV (boolV x)) || yesV (boolV y)) = _; rw [yes_bool, yes_bool]))] at y9
  obtain ⟨m8, y8, _, v8⟩ := mk2 hS hI (op := 8) (a := p) (b := q) (m := m) (by decide) (by decide) (by decide) (by decide) (wrong_bool2 hp1 hq1 (by decide)) gp gq hm h4
  rw [hx, hy] at v8
  rw [yes_of (v8.trans (show _ = boolV (x != y) by show boolV (yesV (boolV x) != yesV (boolV y)) = _; rw [yes_bool, yes_bool]))] at y8
  obtain ⟨m10, y10, _, v10⟩ := mk2 hS hI (op := 10) (a := p) (b := q) (m := m) (by decide) (by decide) (by decide) (by decide) (wrong_bool2 hp1 hq1 (by decide)) gp gq hm h4
  rw [hx, hy] at v10
  rw [yes_of (v10.trans (show _ = boolV (x == y) by show boolV (decide (boolV x = boolV y)) = _; rw [pair_bool]))] at y10
  obtain ⟨m19, y19, _, v19⟩ := mk2 hS hI (op := 19) (a := a) (b := b) (m := m) (by decide) (by decide) (by decide) (by decide) (wrong_int2 ha2 hb2 (by decide)) ga gb hm h4
  rw [hA, hD] at v19
  rw [yes_of (v19.trans (show _ = boolV (decide (A ≤ D)) by show boolV (decide (zv (encZ A) ≤ zv (encZ D))) = _; rw [zv_enc, zv_enc]))] at y19
  obtain ⟨m20, y20, _, v20⟩ := mk2 hS hI (op := 20) (a := a) (b := b) (m := m) (by decide) (by decide) (by decide) (by decide) (wrong_int2 ha2 hb2 (by decide)) ga gb hm h4
  rw [hA, hD] at v20
  rw [yes_of (v20.trans (show _ = boolV (decide (A < D)) by show boolV (decide (zv (encZ A) < zv (encZ D))) = _; rw [zv_enc, zv_enc]))] at y20
  obtain ⟨m21, y21, _, v21⟩ := mk2 hS hI (op := 21) (a := a) (b := b) (m := m) (by decide) (by decide) (by decide) (by decide) (wrong_int2 ha2 hb2 (by decide)) ga gb hm h4
  rw [hA, hD] at v21
  rw [yes_of (v21.trans (show _ = boolV (decide (D ≤ A)) by show boolV (decide (zv (encZ D) ≤ zv (encZ A))) = _; rw [zv_enc, zv_enc]))] at y21
  obtain ⟨m22, y22, _, v22⟩ := mk2 hS hI (op := 22) (a := a) (b := b) (m := m) (by decide) (by decide) (by decide) (by decide) (wrong_int2 ha2 hb2 (by decide)) ga gb hm h4
  rw [hA, hD] at v22
  rw [yes_of (v22.trans (show _ = boolV (decide (D < A)) by show boolV (decide (zv (encZ D) < zv (encZ A))) = _; rw [zv_enc, zv_enc]))] at y22
  obtain ⟨m110, y110, _, v110⟩ := mk2 hS hI (op := 10) (a := a) (b := b) (m := m) (by decide) (by decide) (by decide) (by decide) (wrong_int2 ha2 hb2 (by decide)) ga gb hm h4
  rw [hA, hD] at v110
  rw [yes_of (v110.trans (show _ = boolV (decide (A = D)) by show boolV (decide (((2 : Int), encZ A) = (2, encZ D))) = _; rw [pair_int]))] at y110
  obtain ⟨m11, y11, _, v11⟩ := mk2 hS hI (op := 11) (a := a) (b := b) (m := m) (by decide) (by decide) (by decide) (by decide) (wrong_int2 ha2 hb2 (by decide)) ga gb hm h4
  rw [hA, hD] at v11
  rw [yes_of (v11.trans (show _ = boolV (!(decide (A = D))) by show boolV (!(twiceV [((2 : Int), encZ A), (2, encZ D)])) = _; rw [two_dist, pair_int]))] at y11
  obtain ⟨m13, _, e13, v13⟩ := mk2 hS hI (op := 13) (a := a) (b := b) (m := m) (by decide) (by decide) (by decide) (by decide) (wrong_int2 ha2 hb2 (by decide)) ga gb hm h4
  rw [hA, hD] at v13
  rw [v13.trans (show _ = (2, encZ (A + D)) by show ((2 : Int), encZ (zv (encZ A) + zv (encZ D))) = _; rw [zv_enc, zv_enc])] at e13
  have hcmp := i_Cmp_e A D (by omega) (by omega)
  have n1 := lN_add A D
  have hsub := i_Sub_e (A + D) D (by omega) (by omega)
  rw [show A + D - D = A by omega] at hsub
  have hqA := tB_of (i_Equal_e A A (by omega) (by omega)) rfl
  rw [mkT_eq] at m5 y5 m6 y6 m7 y7 m9 y9 m8 y8 m10 y10 m19 y19 m20 y20 m21 y21 m22 y22 m110 y110 m11 y11 m13 e13
  simp only [gT, cT_eq p] at yp m5 m6 m7 m9 m8 m10
  simp only [gT, cT_eq q] at yq m6 m7 m9 m8 m10
  simp only [gT, cT_eq a] at ea m13 m19 m20 m21 m22 m110 m11
  simp only [gT, cT_eq b] at eb m13 m19 m20 m21 m22 m110 m11
  have hA' := hA
  clear v5 v6 v7 v9 v8 v10 v19 v20 v21 v22 v110 v11 v13 hx hy hA hD
  have hr : True := trivial
  simp only [go_sem, dne, sp, sq, sa, sb]
  ((repeat (refine regA_by 0 rfl ?_; simp only [go_sem, dne, sp, sq, sa, sb])); refine call_pure (hk) rfl ?_; simp only [go_sem, dne, sp, sq, sa, sb]; (repeat (refine regA_by 0 rfl ?_; simp only [go_sem, dne, sp, sq, sa, sb])); refine call_pure (fp) rfl ?_; simp only [go_sem, dne, sp, sq, sa, sb]; (repeat (refine regA_by 0 rfl ?_; simp only [go_sem, dne, sp, sq, sa, sb])); refine call_pure (fq) rfl ?_; simp only [go_sem, dne, sp, sq, sa, sb]; (repeat (refine regA_by 0 rfl ?_; simp only [go_sem, dne, sp, sq, sa, sb])); refine call_pure (fa) rfl ?_; simp only [go_sem, dne, sp, sq, sa, sb]; (repeat (refine regA_by 0 rfl ?_; simp only [go_sem, dne, sp, sq, sa, sb])); refine call_pure (fb) rfl ?_; simp only [go_sem, dne, sp, sq, sa, sb]; (repeat (refine regA_by 0 rfl ?_; simp only [go_sem, dne, sp, sq, sa, sb])); refine call_pure (fm) rfl ?_; simp only [go_sem, dne, sp, sq, sa, sb]; (repeat (refine regA_by 0 rfl ?_; simp only [go_sem, dne, sp, sq, sa, sb])); refine call_pure (ip) rfl ?_; simp only [go_sem, dne, sp, sq, sa, sb]; (repeat (refine regA_by 0 rfl ?_; simp only [go_sem, dne, sp, sq, sa, sb])); refine call_pure (iq) rfl ?_; simp only [go_sem, dne, sp, sq, sa, sb]; (repeat (refine regA_by 0 rfl ?_; simp only [go_sem, dne, sp, sq, sa, sb])); refine call_pure (ia) rfl ?_; simp only [go_sem, dne, sp, sq, sa, sb]; (repeat (refine regA_by 0 rfl ?_; simp only [go_sem, dne, sp, sq, sa, sb])); refine call_pure (ib) rfl ?_; simp only [go_sem, dne, sp, sq, sa, sb]; (repeat (refine regA_by 0 rfl ?_; simp only [go_sem, dne, sp, sq, sa, sb])); refine call_pure (yp) rfl ?_; simp only [go_sem, dne, sp, sq, sa, sb]; (repeat (refine regA_by 0 rfl ?_; simp only [go_sem, dne, sp, sq, sa, sb])); refine call_pure (yq) rfl ?_; simp only [go_sem, dne, sp, sq, sa, sb]; (repeat (refine regA_by 0 rfl ?_; simp only [go_sem, dne, sp, sq, sa, sb])))
  refine pau (stL 270 [(4, .one (.t (eL cFu m))), (5, litI .i16 d), (6, .iptr [.lit (.int .i64 p.op), .lit (.bool p.num.1), eN p.num.2, .lit (.string p.name), .lit (.int .i64 p.sort), eL cT p.kids]), (7, .iptr [.lit (.int .i64 q.op), .lit (.bool q.num.1), eN q.num.2, .lit (.string q.name), .lit (.int .i64 q.sort), eL cT q.kids]), (8, .iptr [.lit (.int .i64 a.op), .lit (.bool a.num.1), eN a.num.2, .lit (.string a.name), .lit (.int .i64 a.sort), eL cT a.kids]), (9, .iptr [.lit (.int .i64 b.op), .lit (.bool b.num.1), eN b.num.2, .lit (.string b.name), .lit (.int .i64 b.sort), eL cT b.kids]), (13, litB x), (14, litB y)] []) (by (refine gstep_list rfl ?_ ?_ ?_ ?_ <;> (try simp only [go_sem, tail_one]) <;> (try simp))) ?_
  refine wpS_cut (stL 270 [(4, .one (.t (eL cFu m))), (5, litI .i16 d), (8, .iptr [.lit (.int .i64 a.op), .lit (.bool a.num.1), eN a.num.2, .lit (.string a.name), .lit (.int .i64 a.sort), eL cT a.kids]), (9, .iptr [.lit (.int .i64 b.op), .lit (.bool b.num.1), eN b.num.2, .lit (.string b.name), .lit (.int .i64 b.sort), eL cT b.kids])] []) ?_ ?_
  · clear m19 y19 m20 y20 m21 y21 m22 y22 m110 y110 m11 y11
    cases x <;> cases y
    all_goals
      simp only [go_sem]
      ((repeat (refine regA_by 0 rfl ?_; simp only [go_sem, bneFF, bneTT, bneTF, bneFT, beqFF, beqTT, beqTF, beqFT, Bool.not_true, Bool.not_false])); refine call_pure (m5) rfl ?_; simp only [go_sem, bneFF, bneTT, bneTF, bneFT, beqFF, beqTT, beqTF, beqFT, Bool.not_true, Bool.not_false]; (repeat (refine regA_by 0 rfl ?_; simp only [go_sem, bneFF, bneTT, bneTF, bneFT, beqFF, beqTT, beqTF, beqFT, Bool.not_true, Bool.not_false])); refine call_pure (y5) rfl ?_; simp only [go_sem, bneFF, bneTT, bneTF, bneFT, beqFF, beqTT, beqTF, beqFT, Bool.not_true, Bool.not_false]; (repeat (refine regA_by 0 rfl ?_; simp only [go_sem, bneFF, bneTT, bneTF, bneFT, beqFF, beqTT, beqTF, beqFT, Bool.not_true, Bool.not_false])); refine call_pure (m6) rfl ?_; simp only [go_sem, bneFF, bneTT, bneTF, bneFT, beqFF, beqTT, beqTF, beqFT, Bool.not_true, Bool.not_false]; (repeat (refine regA_by 0 rfl ?_; simp only [go_sem, bneFF, bneTT, bneTF, bneFT, beqFF, beqTT, beqTF, beqFT, Bool.not_true, Bool.not_false])); refine call_pure (y6) rfl ?_; simp only [go_sem, bneFF, bneTT, bneTF, bneFT, beqFF, beqTT, beqTF, beqFT, Bool.not_true, Bool.not_false]; (repeat (refine regA_by 0 rfl ?_; simp only [go_sem, bneFF, bneTT, bneTF, bneFT, beqFF, beqTT, beqTF, beqFT, Bool.not_true, Bool.not_false])); refine call_pure (m7) rfl ?_; simp only [go_sem, bneFF, bneTT, bneTF, bneFT, beqFF, beqTT, beqTF, beqFT, Bool.not_true, Bool.not_false]; (repeat (refine regA_by 0 rfl ?_; simp only [go_sem, bneFF, bneTT, bneTF, bneFT, beqFF, beqTT, beqTF, beqFT, Bool.not_true, Bool.not_false])); refine call_pure (y7) rfl ?_; simp only [go_sem, bneFF, bneTT, bneTF, bneFT, beqFF, beqTT, beqTF, beqFT, Bool.not_true, Bool.not_false]; (repeat (refine regA_by 0 rfl ?_; simp only [go_sem, bneFF, bneTT, bneTF, bneFT, beqFF, beqTT, beqTF, beqFT, Bool.not_true, Bool.not_false])); refine call_pure (m9) rfl ?_; simp only [go_sem, bneFF, bneTT, bneTF, bneFT, beqFF, beqTT, beqTF, beqFT, Bool.not_true, Bool.not_false]; (repeat (refine regA_by 0 rfl ?_; simp only [go_sem, bneFF, bneTT, bneTF, bneFT, beqFF, beqTT, beqTF, beqFT, Bool.not_true, Bool.not_false])); refine call_pure (y9) rfl ?_; simp only [go_sem, bneFF, bneTT, bneTF, bneFT, beqFF, beqTT, beqTF, beqFT, Bool.not_true, Bool.not_false]; (repeat (refine regA_by 0 rfl ?_; simp only [go_sem, bneFF, bneTT, bneTF, bneFT, beqFF, beqTT, beqTF, beqFT, Bool.not_true, Bool.not_false])); refine call_pure (m8) rfl ?_; simp only [go_sem, bneFF, bneTT, bneTF, bneFT, beqFF, beqTT, beqTF, beqFT, Bool.not_true, Bool.not_false]; (repeat (refine regA_by 0 rfl ?_; simp only [go_sem, bneFF, bneTT, bneTF, bneFT, beqFF, beqTT, beqTF, beqFT, Bool.not_true, Bool.not_false])); refine call_pure (y8) rfl ?_; simp only [go_sem, bneFF, bneTT, bneTF, bneFT, beqFF, beqTT, beqTF, beqFT, Bool.not_true, Bool.not_false]; (repeat (refine regA_by 0 rfl ?_; simp only [go_sem, bneFF, bneTT, bneTF, bneFT, beqFF, beqTT, beqTF, beqFT, Bool.not_true, Bool.not_false])); refine call_pure (m10) rfl ?_; simp only [go_sem, bneFF, bneTT, bneTF, bneFT, beqFF, beqTT, beqTF, beqFT, Bool.not_true, Bool.not_false]; (repeat (refine regA_by 0 rfl ?_; simp only [go_sem, bneFF, bneTT, bneTF, bneFT, beqFF, beqTT, beqTF, beqFT, Bool.not_true, Bool.not_false])); refine call_pure (y10) rfl ?_; simp only [go_sem, bneFF, bneTT, bneTF, bneFT, beqFF, beqTT, beqTF, beqFT, Bool.not_true, Bool.not_false]; (repeat (refine regA_by 0 rfl ?_; simp only [go_sem, bneFF, bneTT, bneTF, bneFT, beqFF, beqTT, beqTF, beqFT, Bool.not_true, Bool.not_false])))
      (refine gstep_list rfl ?_ ?_ ?_ ?_ <;> (try simp only [go_sem, tail_one]) <;> (try simp))
  · clear m5 y5 m6 y6 m7 y7 m9 y9 m8 y8 m10 y10
    simp only [go_sem]
    ((repeat (refine regA_by 0 rfl ?_; simp only [go_sem, cmp_le, cmp_lt, cmp_ge, cmp_gt, cmp_eq0, dne, beqB, Bool.not_true, Bool.not_false])); refine call_pure (ea) rfl ?_; simp only [go_sem, cmp_le, cmp_lt, cmp_ge, cmp_gt, cmp_eq0, dne, beqB, Bool.not_true, Bool.not_false]; (repeat (refine regA_by 0 rfl ?_; simp only [go_sem, cmp_le, cmp_lt, cmp_ge, cmp_gt, cmp_eq0, dne, beqB, Bool.not_true, Bool.not_false])); refine call_pure (eb) rfl ?_; simp only [go_sem, cmp_le, cmp_lt, cmp_ge, cmp_gt, cmp_eq0, dne, beqB, Bool.not_true, Bool.not_false]; (repeat (refine regA_by 0 rfl ?_; simp only [go_sem, cmp_le, cmp_lt, cmp_ge, cmp_gt, cmp_eq0, dne, beqB, Bool.not_true, Bool.not_false])); refine call_pure (hcmp) rfl ?_; simp only [go_sem, cmp_le, cmp_lt, cmp_ge, cmp_gt, cmp_eq0, dne, beqB, Bool.not_true, Bool.not_false]; (repeat (refine regA_by 0 rfl ?_; simp only [go_sem, cmp_le, cmp_lt, cmp_ge, cmp_gt, cmp_eq0, dne, beqB, Bool.not_true, Bool.not_false])); refine call_pure (m19) rfl ?_; simp only [go_sem, cmp_le, cmp_lt, cmp_ge, cmp_gt, cmp_eq0, dne, beqB, Bool.not_true, Bool.not_false]; (repeat (refine regA_by 0 rfl ?_; simp only [go_sem, cmp_le, cmp_lt, cmp_ge, cmp_gt, cmp_eq0, dne, beqB, Bool.not_true, Bool.not_false])); refine call_pure (y19) rfl ?_; simp only [go_sem, cmp_le, cmp_lt, cmp_ge, cmp_gt, cmp_eq0, dne, beqB, Bool.not_true, Bool.not_false]; (repeat (refine regA_by 0 rfl ?_; simp only [go_sem, cmp_le, cmp_lt, cmp_ge, cmp_gt, cmp_eq0, dne, beqB, Bool.not_true, Bool.not_false])); refine call_pure (m20) rfl ?_; simp only [go_sem, cmp_le, cmp_lt, cmp_ge, cmp_gt, cmp_eq0, dne, beqB, Bool.not_true, Bool.not_false]; (repeat (refine regA_by 0 rfl ?_; simp only [go_sem, cmp_le, cmp_lt, cmp_ge, cmp_gt, cmp_eq0, dne, beqB, Bool.not_true, Bool.not_false])); refine call_pure (y20) rfl ?_; simp only [go_sem, cmp_le, cmp_lt, cmp_ge, cmp_gt, cmp_eq0, dne, beqB, Bool.not_true, Bool.not_false]; (repeat (refine regA_by 0 rfl ?_; simp only [go_sem, cmp_le, cmp_lt, cmp_ge, cmp_gt, cmp_eq0, dne, beqB, Bool.not_true, Bool.not_false])); refine call_pure (m21) rfl ?_; simp only [go_sem, cmp_le, cmp_lt, cmp_ge, cmp_gt, cmp_eq0, dne, beqB, Bool.not_true, Bool.not_false]; (repeat (refine regA_by 0 rfl ?_; simp only [go_sem, cmp_le, cmp_lt, cmp_ge, cmp_gt, cmp_eq0, dne, beqB, Bool.not_true, Bool.not_false])); refine call_pure (y21) rfl ?_; simp only [go_sem, cmp_le, cmp_lt, cmp_ge, cmp_gt, cmp_eq0, dne, beqB, Bool.not_true, Bool.not_false]; (repeat (refine regA_by 0 rfl ?_; simp only [go_sem, cmp_le, cmp_lt, cmp_ge, cmp_gt, cmp_eq0, dne, beqB, Bool.not_true, Bool.not_false])); refine call_pure (m22) rfl ?_; simp only [go_sem, cmp_le, cmp_lt, cmp_ge, cmp_gt, cmp_eq0, dne, beqB, Bool.not_true, Bool.not_false]; (repeat (refine regA_by 0 rfl ?_; simp only [go_sem, cmp_le, cmp_lt, cmp_ge, cmp_gt, cmp_eq0, dne, beqB, Bool.not_true, Bool.not_false])); refine call_pure (y22) rfl ?_; simp only [go_sem, cmp_le, cmp_lt, cmp_ge, cmp_gt, cmp_eq0, dne, beqB, Bool.not_true, Bool.not_false]; (repeat (refine regA_by 0 rfl ?_; simp only [go_sem, cmp_le, cmp_lt, cmp_ge, cmp_gt, cmp_eq0, dne, beqB, Bool.not_true, Bool.not_false])); refine call_pure (m110) rfl ?_; simp only [go_sem, cmp_le, cmp_lt, cmp_ge, cmp_gt, cmp_eq0, dne, beqB, Bool.not_true, Bool.not_false]; (repeat (refine regA_by 0 rfl ?_; simp only [go_sem, cmp_le, cmp_lt, cmp_ge, cmp_gt, cmp_eq0, dne, beqB, Bool.not_true, Bool.not_false])); refine call_pure (y110) rfl ?_; simp only [go_sem, cmp_le, cmp_lt, cmp_ge, cmp_gt, cmp_eq0, dne, beqB, Bool.not_true, Bool.not_false]; (repeat (refine regA_by 0 rfl ?_; simp only [go_sem, cmp_le, cmp_lt, cmp_ge, cmp_gt, cmp_eq0, dne, beqB, Bool.not_true, Bool.not_false])); refine call_pure (m11) rfl ?_; simp only [go_sem, cmp_le, cmp_lt, cmp_ge, cmp_gt, cmp_eq0, dne, beqB, Bool.not_true, Bool.not_false]; (repeat (refine regA_by 0 rfl ?_; simp only [go_sem, cmp_le, cmp_lt, cmp_ge, cmp_gt, cmp_eq0, dne, beqB, Bool.not_true, Bool.not_false])); refine call_pure (y11) rfl ?_; simp only [go_sem, cmp_le, cmp_lt, cmp_ge, cmp_gt, cmp_eq0, dne, beqB, Bool.not_true, Bool.not_false]; (repeat (refine regA_by 0 rfl ?_; simp only [go_sem, cmp_le, cmp_lt, cmp_ge, cmp_gt, cmp_eq0, dne, beqB, Bool.not_true, Bool.not_false])); refine call_pure (m13) rfl ?_; simp only [go_sem, cmp_le, cmp_lt, cmp_ge, cmp_gt, cmp_eq0, dne, beqB, Bool.not_true, Bool.not_false]; (repeat (refine regA_by 0 rfl ?_; simp only [go_sem, cmp_le, cmp_lt, cmp_ge, cmp_gt, cmp_eq0, dne, beqB, Bool.not_true, Bool.not_false])); refine call_pure (e13) rfl ?_; simp only [go_sem, cmp_le, cmp_lt, cmp_ge, cmp_gt, cmp_eq0, dne, beqB, Bool.not_true, Bool.not_false]; (repeat (refine regA_by 0 rfl ?_; simp only [go_sem, cmp_le, cmp_lt, cmp_ge, cmp_gt, cmp_eq0, dne, beqB, Bool.not_true, Bool.not_false])); refine call_pure (eb) rfl ?_; simp only [go_sem, cmp_le, cmp_lt, cmp_ge, cmp_gt, cmp_eq0, dne, beqB, Bool.not_true, Bool.not_false]; (repeat (refine regA_by 0 rfl ?_; simp only [go_sem, cmp_le, cmp_lt, cmp_ge, cmp_gt, cmp_eq0, dne, beqB, Bool.not_true, Bool.not_false])); refine call_pure (hsub) rfl ?_; simp only [go_sem, cmp_le, cmp_lt, cmp_ge, cmp_gt, cmp_eq0, dne, beqB, Bool.not_true, Bool.not_false]; (repeat (refine regA_by 0 rfl ?_; simp only [go_sem, cmp_le, cmp_lt, cmp_ge, cmp_gt, cmp_eq0, dne, beqB, Bool.not_true, Bool.not_false])); refine call_pure (ea) rfl ?_; simp only [go_sem, cmp_le, cmp_lt, cmp_ge, cmp_gt, cmp_eq0, dne, beqB, Bool.not_true, Bool.not_false]; (repeat (refine regA_by 0 rfl ?_; simp only [go_sem, cmp_le, cmp_lt, cmp_ge, cmp_gt, cmp_eq0, dne, beqB, Bool.not_true, Bool.not_false])); refine call_pure (hqA) rfl ?_; simp only [go_sem, cmp_le, cmp_lt, cmp_ge, cmp_gt, cmp_eq0, dne, beqB, Bool.not_true, Bool.not_false]; (repeat (refine regA_by 0 rfl ?_; simp only [go_sem, cmp_le, cmp_lt, cmp_ge, cmp_gt, cmp_eq0, dne, beqB, Bool.not_true, Bool.not_false])))
    by_cases hd : d = 0
    · have gd := decide_eq_true hd
      simp only [go_sem, gd]
    · have gd := decide_eq_false hd
      have wd : IntKind.i64.wrap d = d := wrap_i64 (by omega) (by omega)
      have ld : lN d ≤ 1 := lN_small (by omega)
      have on := num12 d (by omega) (by omega)
      have od := i_Of d (by omega) (by omega)
      have gD := GT_num (d := d) (by omega)
      have vd : evalM (tmN d) m = (2, encZ d) := by unfold evalM; rw [if_pos (isT_num d), eval_num]
      obtain ⟨m16, _, e16, v16⟩ := mk2 hS hI (op := 16) (a := a) (b := tmN d) (m := m) (by decide) (by decide) (by decide) (by decide) (wrong_div ha2 hd (by decide)) ga gD hm h4
      obtain ⟨m17, _, e17, v17⟩ := mk2 hS hI (op := 17) (a := a) (b := tmN d) (m := m) (by decide) (by decide) (by decide) (by decide) (wrong_div ha2 hd (by decide)) ga gD hm h4
      rw [hA', vd] at v16 v17
      rw [v16.trans (show _ = (2, encZ (A / d)) by show ((2 : Int), encZ (zv (encZ A) / zv (encZ d))) = _; rw [zv_enc, zv_enc])] at e16
      rw [v17.trans (show _ = (2, encZ (A % d)) by show ((2 : Int), encZ (zv (encZ A) % zv (encZ d))) = _; rw [zv_enc, zv_enc])] at e17
      have n2 : lN (A / d) ≤ lN A := lN_le (Int.natAbs_ediv_le_natAbs A d)
      have hmod0 := Int.emod_nonneg A hd
      have hmodl : A % d < (d.natAbs : Int) := Int.emod_lt A hd
      have n3 : lN (A % d) ≤ lN d := lN_le (by omega)
      have n4 := lN_mul d (A / d)
      have n5 := lN_add (d * (A / d)) (A % d)
      have n6 := lN_abs d
      have hmul := i_Mul_e d (A / d) (by omega) (by omega)
      have hadd := i_Add_e (d * (A / d)) (A % d) (by omega) (by omega)
      rw [show d * (A / d) + A % d = A from Int.mul_ediv_add_emod A d] at hadd
      have hsg := i_Sign_e (A % d) (by omega)
      have gsg : decide (0 ≤ (A % d).sign) = true := decide_eq_true (by rcases Int.lt_or_eq_of_le hmod0 with h | h; rw [Int.sign_eq_one_of_pos h]; decide; rw [← h]; decide)
      have habs := i_Abs_e d (by omega)
      have hcm := i_Cmp_e (A % d) (d.natAbs : Int) (by omega) (by omega)
      have gcm : decide (A % d < (d.natAbs : Int)) = true := decide_eq_true hmodl
      rw [mkT_eq] at m16 e16 m17 e17
      simp only [gT, cT_eq a, cT_eq (tmN d)] at m16 m17
      simp only [gT, cT_eq (tmN d)] at on
      simp only [go_sem, gd, wd]
      refine call_pure on rfl ?_
      simp only [go_sem, wd]
      refine regA_g (gstep_frzX [(17, [.lit (.int .i64 (tmN d).op), .lit (.bool (tmN d).num.1), eN (tmN d).num.2, .lit (.string (tmN d).name), .lit (.int .i64 (tmN d).sort), eL cT (tmN d).kids])] (by simp only [go_sem] <;> simp)) ?_
      ((repeat (refine regA_by 0 rfl ?_; simp only [go_sem, cmp_lt, gsg, gcm, wd])); refine call_pure (m16) rfl ?_; simp only [go_sem, cmp_lt, gsg, gcm, wd]; (repeat (refine regA_by 0 rfl ?_; simp only [go_sem, cmp_lt, gsg, gcm, wd])); refine call_pure (e16) rfl ?_; simp only [go_sem, cmp_lt, gsg, gcm, wd]; (repeat (refine regA_by 0 rfl ?_; simp only [go_sem, cmp_lt, gsg, gcm, wd])); refine call_pure (m17) rfl ?_; simp only [go_sem, cmp_lt, gsg, gcm, wd]; (repeat (refine regA_by 0 rfl ?_; simp only [go_sem, cmp_lt, gsg, gcm, wd])); refine call_pure (e17) rfl ?_; simp only [go_sem, cmp_lt, gsg, gcm, wd]; (repeat (refine regA_by 0 rfl ?_; simp only [go_sem, cmp_lt, gsg, gcm, wd])); refine call_pure (od) rfl ?_; simp only [go_sem, cmp_lt, gsg, gcm, wd]; (repeat (refine regA_by 0 rfl ?_; simp only [go_sem, cmp_lt, gsg, gcm, wd])); refine call_pure (hmul) rfl ?_; simp only [go_sem, cmp_lt, gsg, gcm, wd]; (repeat (refine regA_by 0 rfl ?_; simp only [go_sem, cmp_lt, gsg, gcm, wd])); refine call_pure (hadd) rfl ?_; simp only [go_sem, cmp_lt, gsg, gcm, wd]; (repeat (refine regA_by 0 rfl ?_; simp only [go_sem, cmp_lt, gsg, gcm, wd])); refine call_pure (ea) rfl ?_; simp only [go_sem, cmp_lt, gsg, gcm, wd]; (repeat (refine regA_by 0 rfl ?_; simp only [go_sem, cmp_lt, gsg, gcm, wd])); refine call_pure (hqA) rfl ?_; simp only [go_sem, cmp_lt, gsg, gcm, wd]; (repeat (refine regA_by 0 rfl ?_; simp only [go_sem, cmp_lt, gsg, gcm, wd])); refine call_pure (hsg) rfl ?_; simp only [go_sem, cmp_lt, gsg, gcm, wd]; (repeat (refine regA_by 0 rfl ?_; simp only [go_sem, cmp_lt, gsg, gcm, wd])); refine call_pure (od) rfl ?_; simp only [go_sem, cmp_lt, gsg, gcm, wd]; (repeat (refine regA_by 0 rfl ?_; simp only [go_sem, cmp_lt, gsg, gcm, wd])); refine call_pure (habs) rfl ?_; simp only [go_sem, cmp_lt, gsg, gcm, wd]; (repeat (refine regA_by 0 rfl ?_; simp only [go_sem, cmp_lt, gsg, gcm, wd])); refine call_pure (hcm) rfl ?_; simp only [go_sem, cmp_lt, gsg, gcm, wd]; (repeat (refine regA_by 0 rfl ?_; simp only [go_sem, cmp_lt, gsg, gcm, wd])))
end Go.Proofs.YtgnfgaioeldagaaGreat
