/- At every input the call answers true and leaves its arguments as they were; no conditions. -/
import Derived.Test.YtgnfgaioeldagaaGreatVh
import Derived.Test.YtgnfgaioeldagaaGreatVg
set_option linter.unusedSimpArgs false
set_option linter.unusedVariables false
namespace Go.Proofs.YtgnfgaioeldagaaGreat
open Go Go.Abs
set_option maxHeartbeats 16000000
theorem fewT_FT {t : Tm} (h : fewT t = true) : FT t ∧ t.nodes ≤ 120 := by
  unfold fewT at h
  rw [Bool.and_eq_true] at h
  exact ⟨ftB_FT t h.2, of_decide_eq_true h.1⟩
theorem limM_put {m : List Fu} {name : ByteArray} {v : VR} (hm : limM m) (hl : m.length ≤ 1000) (hn : name.size < 1000) (hv : v.2.2.length ≤ 4) : limM (putM m name v) := by
  have hh : limM (heldM m) ∧ (heldM m).length ≤ 1000 := by
    unfold heldM; split
    · exact ⟨hm, hl⟩
    · exact ⟨⟨by decide, fun f hf => by cases hf⟩, by simp⟩
  unfold putM putF
  generalize heldM m = x at *
  have l1 := List.length_filter_le (fun g : Fu => sLt g.1.1 name) x
  have l2 := List.length_filter_le (fun g : Fu => sLt name g.1.1) x
  refine ⟨by rw [List.length_append, List.length_append]; simp only [List.length_singleton]; omega, fun f hf => ?_⟩
  rw [List.mem_append, List.mem_append] at hf
  rcases hf with (hf | hf) | hf
  · exact hh.1.2 f (List.mem_filter.1 hf).1
  · obtain rfl := List.mem_singleton.1 hf
    exact ⟨by show name.size < _; omega, by show 0 < 1000000000; decide, by show 0 < 1000000000; decide, (fun r hr => by cases hr), by show v.2.2.length < 1000000000; omega⟩
  · exact hh.1.2 f (List.mem_filter.1 hf).1
theorem fmB_len {m : List Fu} (h : fmB m = true) : m.length ≤ 12 := by
  unfold fmB at h
  rw [Bool.and_eq_true] at h
  exact of_decide_eq_true h.2
theorem beqB (b : Bool) : (b == b) = true := by cases b <;> rfl
theorem appF_app {s : Sg} {l : List VR} {b c : List Fu} (h : appF s l b = appF s l c) : ∀ a : List Fu, appF s l (a ++ b) = appF s l (a ++ c)
  | [] => h
  | f :: a => by
    show (if f.1 = s then _ else appF s l (a ++ b)) = (if f.1 = s then _ else appF s l (a ++ c))
    rw [appF_app h a]
theorem appF_one {s : Sg} {l : List VR} {f : Fu} {a : List Fu} (h : ¬ f.1 = s) : appF s l (f :: a) = appF s l a := if_neg h
theorem lN_64 {z : Int} (h1 : -9223372036854775808 ≤ z) (h2 : z < 9223372036854775808) : lN z ≤ 3 := lN_of (by rw [show BB ^ 3 = 1000000000000000000000000000 from rfl]; omega)
end Go.Proofs.YtgnfgaioeldagaaGreat
namespace Go.Proofs.YtgnfgaioeldagaaGreat
open Go Go.Abs
set_option maxHeartbeats 16000000
/-! ### Tables -/
abbrev eU8 (l : List Int) : T := eL (fun n => [T.lit (.int .u8 n)]) l
def wantK (ask other : Int) : List Int → Nat → Int
  | [], _ => other
  | x :: l, i => if x % 4 = ask % 4 then (i : Int) else wantK ask other l (i + 1)
def rowP (p : Int × Nat) : Rw := ([(2, encZ (p.1 % 4))], (2, encZ p.2))
def cRq (p : Int × Nat) : List T := [.seq (some false) [cV (2, encZ (p.1 % 4))], .lit (.int .i64 2), .lit (.bool (encZ p.2).1), eN (encZ p.2).2]
theorem cRq_len (p : Int × Nat) : (cRq p).length = 4 := rfl
theorem enc_inj {x y : Int} : encZ x = encZ y ↔ x = y := ⟨fun h => by rw [← zv_enc x, h, zv_enc], fun h => by rw [h]⟩
theorem row_want (ask other : Int) : ∀ (l : List Int) (i : Nat), rowF [(2, encZ (ask % 4))] (2, encZ other) ((l.zipIdx i).map rowP) = (2, encZ (wantK ask other l i))
  | [], _ => rfl
  | x :: l, i => by
    rw [List.zipIdx_cons, List.map_cons]
    unfold rowF wantK rowP
    by_cases e : x % 4 = ask % 4
    · rw [if_pos e, if_pos (by rw [e])]
    · rw [if_neg e, if_neg (fun h => e (by
        have h := (List.cons.inj h).1
        exact enc_inj.1 (Prod.ext_iff.1 h).2))]
      exact row_want ask other l (i + 1)
theorem wantK_range (ask other : Int) : ∀ (l : List Int) (i : Nat), (0 ≤ wantK ask other l i ∧ wantK ask other l i < i + l.length) ∨ wantK ask other l i = other
  | [], _ => .inr rfl
  | x :: l, i => by
    unfold wantK
    by_cases e : x % 4 = ask % 4
    · rw [if_pos e]; left; simp; omega
    · rw [if_neg e]
      rcases wantK_range ask other l (i + 1) with h | h
      · left; simp; omega
      · exact .inr h
abbrev sF : ByteArray := { data := #[102] }
theorem symF : symB sF = true := sym_one 102 (by decide) (by decide)
abbrev tmF (z : Int) : Tm := .mk 4 zzI sF 2 [tmN z]
abbrev fuF (pl : List (Int × Nat)) (other : Int) : Fu := ((sF, [2], 2), pl.map rowP, (2, encZ other))
theorem isT_F (z : Int) : isT (tmF z) = true := by
  have h1 := isT_num z
  unfold isT at h1 ⊢
  rw [Bool.and_eq_true] at h1
  rw [okT_eq, okTs_all]
  show (true && ((okT (tmN z) && true) && nodeB (tmF z))) = true
  rw [h1.2]
  show (decide (zzI = zzI) && sigB (sF, [2], 2)) = true
  unfold sigB
  rw [symF]; rfl
theorem isM_F (pl : List (Int × Nat)) (other : Int) : isM [fuF pl other] = true := by
  show ((funB (fuF pl other) && true) && true) = true
  have hr : (pl.map rowP).all (rowB (sF, [2], 2)) = true := List.all_eq_true.2 fun r hr => by
    obtain ⟨p, _, rfl⟩ := List.mem_map.1 hr
    show ((ofV (2, encZ (p.1 % 4)) 2 && true) && ofV (2, encZ p.2) 2) = true
    rw [ofV_int, ofV_int]; rfl
  unfold funB
  show ((sigB (sF, [2], 2) && ofV (2, encZ other) 2 && (pl.map rowP).all (rowB (sF, [2], 2))) && true && true) = true
  rw [hr, ofV_int]
  unfold sigB
  rw [symF]; rfl
theorem eval_F (ask other : Int) (keys : List Int) : evalM (tmF (ask % 4)) [fuF keys.zipIdx other] = (2, encZ (wantK ask other keys 0)) := by
  unfold evalM
  rw [if_pos (isT_F _), held_of (isM_F _ _), evalT_eq]
  show appF (sF, [2], 2) [evalT _ (tmN (ask % 4))] [fuF keys.zipIdx other] = _
  rw [eval_num]
  show (if (sF, [2], 2) = (sF, [2], 2) then rowF [(2, encZ (ask % 4))] (2, encZ other) (keys.zipIdx.map rowP) else _) = _
  rw [if_pos rfl]
  exact row_want ask other keys 0
theorem eval_F0 (z : Int) : evalM (tmF z) [] = (2, zzI) := by
  unfold evalM
  rw [if_pos (isT_F _), evalT_eq]
  have : heldM [] = [] := by unfold heldM; split <;> rfl
  rw [this]; rfl
theorem tw_rows : ∀ pl : List (Int × Nat), TW (eL cRq pl) (eL cRw (pl.map rowP)) := fun pl => by
  unfold eL
  rw [List.map_map]
  refine TW.list (.inr rfl) ?_
  induction pl with
  | nil => exact .nil
  | cons p pl ih => exact .cons (.cons .weak (.cons .refl (.cons .refl (.cons .refl .nil)))) ih
theorem tw_F (pl : List (Int × Nat)) (other : Int) : TVW (.one (.seq (some false) [[.lit (.string sF), .seq (some false) [[.lit (.int .i64 2)]], .lit (.int .i64 2), eL cRq pl, .lit (.int .i64 2), .lit (.bool (encZ other).1), eN (encZ other).2]])) (tLF [fuF pl other]) :=
  .one (TW.list (.inr rfl) (.cons (.cons .refl (.cons .weak (.cons .refl (.cons (tw_rows pl) (.cons .refl (.cons .refl (.cons .refl .nil))))))) .nil))
theorem tw_T (z : Int) : TVW (.agg [.lit (.int .i64 4), .lit (.bool false), .seq (some true) [], .lit (.string sF), .lit (.int .i64 2), .seq (some false) [cT (tmN z)]]) (gT (tmF z)) :=
  .agg (.cons .refl (.cons .refl (.cons .weak (.cons .refl (.cons .refl (.cons .weak .nil))))))
theorem lim_F {pl : List (Int × Nat)} {other : Int} (hl : pl.length ≤ 10) (hp : ∀ p ∈ pl, p.2 < 100) (ho : lN other ≤ 4) : limM [fuF pl other] ∧ val4 [fuF pl other] := by
  have hv : ∀ p ∈ pl, lN (p.2 : Int) ≤ 1 := fun p h => lN_small (by have := hp p h; omega)
  have hm : ∀ x : Int, lN (x % 4) ≤ 1 := fun x => lN_small (by omega)
  constructor
  · refine ⟨by show 1 < 1000000000; decide, fun f hf => ?_⟩
    obtain rfl := List.mem_singleton.1 hf
    refine ⟨by show 1 < _; decide, by show 1 < 1000000000; decide, by show (pl.map rowP).length < 1000000000; rw [List.length_map]; omega, fun r hr => ?_, by show lN other < 1000000000; omega⟩
    obtain ⟨p, h, rfl⟩ := List.mem_map.1 hr
    refine ⟨by show 1 < 1000000000; decide, fun v hv => ?_, ?_⟩
    · obtain rfl := List.mem_singleton.1 hv
      show lN (p.1 % 4) < 1000000000
      have := hm p.1; omega
    · show lN (p.2 : Int) < 1000000000
      have := hv p h; omega
  · intro f hf
    obtain rfl := List.mem_singleton.1 hf
    refine ⟨ho, fun r hr => ?_⟩
    obtain ⟨p, h, rfl⟩ := List.mem_map.1 hr
    show lN (p.2 : Int) ≤ 4
    have := hv p h; omega
theorem wantK_drop {ask other : Int} {l : List Int} {k : Nat} (h : k < l.length) : wantK ask other (l.drop k) k = if l[k] % 4 = ask % 4 then (k : Int) else wantK ask other (l.drop (k + 1)) (k + 1) := by
  rw [List.drop_eq_getElem_cons h]; rfl
set_option maxRecDepth 100000 in
theorem p_ValueTables (hS : SmallSpec) (hI : IdxSpec) (hC : CmpSpec) (keys : List Int) (jl : keys.length ≤ maxLen) (kl : ∀ n ∈ keys, 0 ≤ n ∧ n < 256) (ask : Int) (a1 : 0 ≤ ask) (a2 : ask < 256) (other : Int) (b1 : -9223372036854775808 ≤ other) (b2 : other < 9223372036854775808) : PCall Tryz.prog 7 [.one (eU8 keys), tI .u8 ask, tI .i64 other] (tB true) := by
  have hk := known12 hS hI hC
  have jl : keys.length ≤ 9223372036854775807 := Nat.le_trans jl (by decide)
  have d1 := gtI keys.length 10 (K := 10) rfl
  refine pcall_of_wpS [false, false, false, false, false, false, true] mixed Tryz.call7 Tryz.func7 rfl Tryz.ntmps7 Tryz.results7 (by simp) (by decide) ?_
  cases c1 : decide (keys.length ≤ 10) with
  | false =>
    rw [c1] at d1
    simp only [go_sem]
    ((repeat (refine regA_by 0 rfl ?_; simp only [go_sem, d1])); refine call_pure (hk) rfl ?_; simp only [go_sem, d1]; (repeat (refine regA_by 0 rfl ?_; simp only [go_sem, d1])))
  | true =>
  rw [c1] at d1
  have c1 := of_decide_eq_true c1
  have oo := i_Of other b1 b2
  have lo := lN_64 b1 b2
  have m1 : ∀ x : Int, 0 ≤ x → x.tmod 4 = x % 4 := fun x h => Int.tmod_eq_emod_of_nonneg h
  have ma := m1 ask a1
  have mk : ∀ k (h : k < keys.length), (keys[k]).tmod 4 = keys[k] % 4 := fun k h => m1 _ (kl _ (List.getElem_mem h)).1
  obtain ⟨W, hW⟩ : ∃ W : Nat → Int, W = fun k => wantK ask other (keys.drop k) k := ⟨_, rfl⟩
  have hWn : W keys.length = other := by rw [hW]; show wantK ask other (keys.drop keys.length) _ = _; rw [List.drop_length]; rfl
  have hWs : ∀ k (h : k < keys.length), W k = if keys[k] % 4 = ask % 4 then (k : Int) else W (k + 1) := fun k h => by rw [hW]; exact wantK_drop h
  have hW0 : W 0 = wantK ask other keys 0 := by rw [hW]; show wantK ask other (keys.drop 0) 0 = _; rw [List.drop_zero]
  clear hW
  have wi : IntKind.i64.wrap ((keys.length : Int) - 1) = (keys.length : Int) - 1 := wrap_i64 (by omega) (by omega)
  simp only [go_sem]
  ((repeat (refine regA_by 0 rfl ?_; simp only [go_sem, d1])); refine call_pure (hk) rfl ?_; simp only [go_sem, d1]; (repeat (refine regA_by 0 rfl ?_; simp only [go_sem, d1])); refine call_pure (oo) rfl ?_; simp only [go_sem, d1]; (repeat (refine regA_by 0 rfl ?_; simp only [go_sem, d1])))
  simp only [go_sem, wi]
  refine loop_inv (fun k : Nat => stL 91 [(0, .one (.t (eU8 keys))), (1, litI .u8 ask), (7, .one (.ptr 7 0)), (8, litI .i64 (W k)), (9, litI .i64 ((k : Int) - 1))] [(7, [.t (.lit (.string sF)), .t (.seq (some false) [[.lit (.int .i64 2)]]), .t (.lit (.int .i64 2)), .t (.seq (some true) []), .t (.lit (.int .i64 2)), .t (.lit (.bool (encZ other).1)), .t (eN (encZ other).2)])]) (fun k => k ≤ keys.length) (fun k => k) keys.length ?_ (Nat.le_refl _) ?_
  · (refine gstep_list rfl ?_ ?_ ?_ ?_ <;> (try simp only [go_sem, tail_one, hWn, wi]) <;> (try simp))
    exact ⟨rfl, rfl⟩
  · intro k hk2
    simp only [go_sem]
    refine CondR_if (fun hlt => ?_) (fun hge => ?_)
    · obtain ⟨i, rfl⟩ : ∃ i, k = i + 1 := ⟨k - 1, by omega⟩
      have e1 : (((i + 1 : Nat) : Int) - 1) = (i : Int) := by omega
      have hlt' : i < keys.length := by omega
      have hel : elemD (fun n => [T.lit (.int .u8 n)]) keys i = [T.lit (.int .u8 keys[i])] := elemD_lt hlt'
      have hws := hWs i hlt'
      have hmk := mk i hlt'
      have ilt : ((i : Int) < (keys.length : Int)) = True := eq_true (by omega)
      have wd : IntKind.i64.wrap ((i : Int) - 1) = (i : Int) - 1 := wrap_i64 (by omega) (by omega)
      generalize keys[i] = x at *
      rw [e1]
      by_cases e : x % 4 = ask % 4
      · rw [if_pos e] at hws
        have ed := decide_eq_true e
        simp only [go_sem, hel, ilt, hmk, ma, ed]
        (repeat (refine And.intro (by omega) ?_))
        refine ⟨i, by omega, (by show i < i + 1; omega), ?_⟩
        (refine gstep_list rfl ?_ ?_ ?_ ?_ <;> (try simp only [go_sem, tail_one, hws, wd]) <;> (try simp))
      · rw [if_neg e] at hws
        have ed := decide_eq_false e
        simp only [go_sem, hel, ilt, hmk, ma, ed]
        (repeat (refine And.intro (by omega) ?_))
        refine ⟨i, by omega, (by show i < i + 1; omega), ?_⟩
        (refine gstep_list rfl ?_ ?_ ?_ ?_ <;> (try simp only [go_sem, tail_one, hws, wd]) <;> (try simp))
    · obtain rfl : k = 0 := by omega
      rw [hW0]
      have hwr := wantK_range ask other keys 0
      have hEv := eval_F ask other keys
      generalize wantK ask other keys 0 = w0 at *
      clear hWn hWs hW0
      simp only [go_sem]
      refine loop_inv (fun i : Nat => stL 91 [(0, .one (.t (eU8 keys))), (1, litI .u8 ask), (7, .one (.ptr 7 0)), (8, litI .i64 w0), (10, litI .i64 i)] (accE 1000 cRq (keys.zipIdx.take i) ++ [(7, [.t (.lit (.string sF)), .t (.seq (some false) [[.lit (.int .i64 2)]]), .t (.lit (.int .i64 2)), accC 1000 4 (keys.zipIdx.take i), .t (.lit (.int .i64 2)), .t (.lit (.bool (encZ other).1)), .t (eN (encZ other).2)])])) (fun i => i ≤ keys.length) (fun i => keys.length - i) 0 ?_ (Nat.zero_le _) ?_
      · rw [List.take_zero]
        (refine gstep_list rfl ?_ ?_ ?_ ?_ <;> (try simp only [go_sem, tail_one]) <;> (try simp))
      · intro i hi
        simp only [go_sem]
        refine CondR_if (fun hlt => ?_) (fun hge => ?_)
        · have hlt' : i < keys.length := by omega
          have hel : elemD (fun n => [T.lit (.int .u8 n)]) keys i = [T.lit (.int .u8 keys[i])] := elemD_lt hlt'
          have hlz : i < keys.zipIdx.length := by rw [List.length_zipIdx]; exact hlt'
          have hnx : keys.zipIdx.take (i + 1) = keys.zipIdx.take i ++ [(keys[i], i)] := by
            rw [List.take_succ_eq_append_getElem hlz, List.getElem_zipIdx, Nat.zero_add]
          have hal : (keys.zipIdx.take i).length = i := by rw [List.length_take]; omega
          have hmk := mk i hlt'
          have ilt : ((i : Int) < (keys.length : Int)) = True := eq_true (by omega)
          have hx4 : IntKind.i64.wrap (keys[i] % 4) = keys[i] % 4 := wrap_i64 (by omega) (by omega)
          have o1 := i_Of (keys[i] % 4) (by omega) (by omega)
          have o2 := i_Of (i : Int) (by omega) (by omega)
          generalize keys[i] = x at *
          generalize keys.zipIdx.take i = acc at *
          simp only [go_sem]
          refine regA_by 0 rfl ?_
          simp only [go_sem, hel, ilt, hmk, hx4]
          (repeat (refine And.intro (by omega) ?_))
          refine call_pure o1 rfl ?_
          simp only [go_sem]
          refine call_pure o2 rfl ?_
          simp only [go_sem]
          refine opA_app_acc (sz := 4) (bytes := 64) (by simp only [go_sem, AppTy] <;> decide) cRq_len acc [(x, i)] (b := 1000) (by simp only [go_sem] <;> rfl) (by simp only [go_sem] <;> rfl) (by simp only [go_sem] <;> rfl) rfl (by simp) (by simp only [List.length_cons, List.length_nil] at *; omega) (by decide) ?_
          simp only [go_sem]
          refine ⟨i + 1, hlt', (by show keys.length - (i + 1) < keys.length - i; omega), ?_⟩
          (refine gstep_list rfl ?_ ?_ ?_ ?_ <;> (try simp only [go_sem, tail_one, hnx, wrap_i64 (n := (i : Int) + 1) (by omega) (by omega)]) <;> (try simp))
        · obtain rfl : i = keys.length := by omega
          have hpt : keys.zipIdx.take keys.length = keys.zipIdx := List.take_of_length_le (by rw [List.length_zipIdx]; omega)
          have hpl : keys.zipIdx.length = keys.length := List.length_zipIdx
          have hp2 : ∀ p ∈ keys.zipIdx, p.2 < 100 := fun p hp => by
            obtain ⟨j, hj, rfl⟩ := List.mem_iff_getElem.1 hp
            rw [List.getElem_zipIdx]; show 0 + j < 100; omega
          rw [hpt]
          have hM := isM_F keys.zipIdx other
          have lM := lim_F (other := other) (pl := keys.zipIdx) (by omega) hp2 (by omega)
          have tM := tw_F keys.zipIdx other
          generalize keys.zipIdx = pl at *
          have hA : IntKind.i64.wrap (ask % 4) = ask % 4 := wrap_i64 (by omega) (by omega)
          have la4 : lN (ask % 4) ≤ 1 := lN_small (by omega)
          have lw : lN w0 ≤ 3 := lN_64 (by omega) (by omega)
          have ow := i_Of w0 (by omega) (by omega)
          have on := num12 (ask % 4) (by omega) (by omega)
          have hFt : FT (tmF (ask % 4)) := (FT_eq _).2 ⟨by show 0 ≤ 4; decide, by show 1 ≤ 30; decide, fun k hk => by obtain rfl := List.mem_singleton.1 hk; exact FT_num _ (by omega)⟩
          have hKt : KT (tmF (ask % 4)) := (KT_eq _).2 ⟨by show 0 ≤ 9223372036854775807; decide, by show 1 ≤ 9223372036854775807; decide, by show 1 ≤ 9223372036854775807; decide, fun k hk => by obtain rfl := List.mem_singleton.1 hk; exact KT_num _ (by omega)⟩
          have hnt : (tmF (ask % 4)).nodes < 100000 := by show 2 < 100000; decide
          have i1 := v_Is hS hI [fuF pl other] lM.1
          rw [hM] at i1
          have i1 := i1.tw (.cons tM .nil)
          have e1 := v_Eval hS hI (tmF (ask % 4)) [fuF pl other] hFt hKt hnt lM.1 lM.2
          rw [hEv] at e1
          have e1 := e1.tw (.cons (tw_T (ask % 4)) (.cons tM .nil))
          have e2 := v_Eval hS hI (tmF (ask % 4)) [] hFt hKt hnt ⟨by decide, fun f hf => by cases hf⟩ (fun f hf => by cases hf)
          rw [eval_F0] at e2
          have e2 := e2.tw (tvs' := [_, .one (.seq (some true) [])]) (.cons (tw_T (ask % 4)) (.cons (.one .weak) .nil))
          have q1 := tB_of (i_Equal_e w0 w0 (by omega) (by omega)) rfl
          have s1 := i_Sign false [] (by decide)
          simp only [go_sem]
          refine pau (stL 91 [(1, litI .u8 ask), (7, .one (.ptr 7 0)), (8, litI .i64 w0)] [(7, [.t (.lit (.string sF)), .t (.seq (some false) [[.lit (.int .i64 2)]]), .t (.lit (.int .i64 2)), .t (eL cRq pl), .t (.lit (.int .i64 2)), .t (.lit (.bool (encZ other).1)), .t (eN (encZ other).2)])]) ?_ ?_
          · cases pl with
            | nil =>
              refine GStep.trans (gstep_weakH 7 (cs := [.t (.lit (.string sF)), .t (.seq (some false) [[.lit (.int .i64 2)]]), .t (.lit (.int .i64 2)), .t (.seq (some true) []), .t (.lit (.int .i64 2)), .t (.lit (.bool (encZ other).1)), .t (eN (encZ other).2)]) (cs' := [.t (.lit (.string sF)), .t (.seq (some false) [[.lit (.int .i64 2)]]), .t (.lit (.int .i64 2)), .t (eL cRq []), .t (.lit (.int .i64 2)), .t (.lit (.bool (encZ other).1)), .t (eN (encZ other).2)]) (by simp only [go_sem] <;> rfl) (.cons .refl (.cons .refl (.cons .refl (.cons .seq (.cons .refl (.cons .refl (.cons .refl .nil)))))))) ?_
              (refine gstep_list rfl ?_ ?_ ?_ ?_ <;> (try simp only [go_sem, tail_one]) <;> (try simp))
            | cons v w =>
              refine GStep.trans (gstep_frz (b := 1000) (sz := 4) (len := (v :: w).length) (x := eL cRq (v :: w)) (cs := cellsL cRq (v :: w)) (by simp only [go_sem] <;> rfl) (treeOf_L cRq_len)) ?_
              (refine gstep_list rfl ?_ ?_ ?_ ?_ <;> (try simp only [go_sem, tail_one]) <;> (try simp))
          · simp only [go_sem, ma, hA]
            ((repeat (refine regA_by 0 rfl ?_; simp only [go_sem, ma, hA, cT_eq, Tm.op, Tm.num, Tm.name, Tm.sort, Tm.kids])); refine call_pure (on) rfl ?_; simp only [go_sem, ma, hA, cT_eq, Tm.op, Tm.num, Tm.name, Tm.sort, Tm.kids]; (repeat (refine regA_by 0 rfl ?_; simp only [go_sem, ma, hA, cT_eq, Tm.op, Tm.num, Tm.name, Tm.sort, Tm.kids])); refine call_pure (i1) rfl ?_; simp only [go_sem, ma, hA, cT_eq, Tm.op, Tm.num, Tm.name, Tm.sort, Tm.kids]; (repeat (refine regA_by 0 rfl ?_; simp only [go_sem, ma, hA, cT_eq, Tm.op, Tm.num, Tm.name, Tm.sort, Tm.kids])); refine call_pure (e1) rfl ?_; simp only [go_sem, ma, hA, cT_eq, Tm.op, Tm.num, Tm.name, Tm.sort, Tm.kids]; (repeat (refine regA_by 0 rfl ?_; simp only [go_sem, ma, hA, cT_eq, Tm.op, Tm.num, Tm.name, Tm.sort, Tm.kids])); refine call_pure (ow) rfl ?_; simp only [go_sem, ma, hA, cT_eq, Tm.op, Tm.num, Tm.name, Tm.sort, Tm.kids]; (repeat (refine regA_by 0 rfl ?_; simp only [go_sem, ma, hA, cT_eq, Tm.op, Tm.num, Tm.name, Tm.sort, Tm.kids])); refine call_pure (q1) rfl ?_; simp only [go_sem, ma, hA, cT_eq, Tm.op, Tm.num, Tm.name, Tm.sort, Tm.kids]; (repeat (refine regA_by 0 rfl ?_; simp only [go_sem, ma, hA, cT_eq, Tm.op, Tm.num, Tm.name, Tm.sort, Tm.kids])); refine call_pure (e2) rfl ?_; simp only [go_sem, ma, hA, cT_eq, Tm.op, Tm.num, Tm.name, Tm.sort, Tm.kids]; (repeat (refine regA_by 0 rfl ?_; simp only [go_sem, ma, hA, cT_eq, Tm.op, Tm.num, Tm.name, Tm.sort, Tm.kids])); refine call_pure (s1) rfl ?_; simp only [go_sem, ma, hA, cT_eq, Tm.op, Tm.num, Tm.name, Tm.sort, Tm.kids]; (repeat (refine regA_by 0 rfl ?_; simp only [go_sem, ma, hA, cT_eq, Tm.op, Tm.num, Tm.name, Tm.sort, Tm.kids])))
            try rfl
end Go.Proofs.YtgnfgaioeldagaaGreat
