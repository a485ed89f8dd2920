/- At every input the call answers true and leaves its arguments as they were; no conditions. -/
import Derived.Test.YtfgejnedaijjiaaGreatCe
import Derived.Test.YtfgejnedaijjiaaGreatCc
import Derived.Test.YtfgejnedaijjiaaGreatPe
set_option linter.unusedSimpArgs false
set_option linter.unusedVariables false
namespace Go.Proofs.YtfgejnedaijjiaaGreat
open Go Go.Abs
set_option maxHeartbeats 16000000
/-! ### The rounded sum, both ways -/
theorem getD_take {α : Type} {l : List α} {d : α} {i m : Nat} (h : i < m) : (l.take m).getD i d = l.getD i d := by
  rw [List.getD_eq_getElem?_getD, List.getD_eq_getElem?_getD, List.getElem?_take_of_lt h]
theorem cS_take (ls : List Fm) (q : List Rat) (m v : Nat) : ∀ i, i ≤ m → cS ls (q.take m) i v = cS ls q i v
  | 0, _ => rfl
  | i + 1, h => by
    show cS ls (q.take m) i v + _ * (q.take m).getD i 0 = cS ls q i v + _ * q.getD i 0
    rw [cS_take ls q m v i (by omega), getD_take (by omega)]
theorem kS_take (ls : List Fm) (q : List Rat) (m : Nat) : ∀ i, i ≤ m → kS ls (q.take m) i = kS ls q i
  | 0, _ => rfl
  | i + 1, h => by
    show kS ls (q.take m) i + _ * (q.take m).getD i 0 = kS ls q i + _ * q.getD i 0
    rw [kS_take ls q m i (by omega), getD_take (by omega)]
def rdC (a : List LL) (x : List QQ) (G : List Rat) : Prop := negX a x ∨ brkG G
instance (a : List LL) (x : List QQ) (G : List Rat) : Decidable (rdC a x G) := by unfold rdC; exact inferInstance
def rdF (a : List LL) (x : List QQ) (G : List Rat) (k : Rat) : Fm := if rdC a x G then ([], 0) else (rdM G G.length, -(-k).floor)
theorem rdT_eq (a : List LL) (x : List QQ) (G : List Rat) (k : Rat) : rdT a x G k = .tup [eF (rdF a x G k), tB (decide (¬ rdC a x G))] := by
  by_cases h : rdC a x G
  · have e1 : rdT a x G k = .tup [eF ([], 0), tB false] := if_pos h
    have e2 : rdF a x G k = ([], 0) := if_pos h
    rw [e1, e2, decide_eq_false (fun h2 => h2 h)]
  · have e1 : rdT a x G k = .tup [eF (rdM G G.length, -(-k).floor), tB true] := if_neg h
    have e2 : rdF a x G k = (rdM G G.length, -(-k).floor) := if_neg h
    rw [e1, e2, decide_eq_true h]
theorem WF_rd (a : List LL) (x : List QQ) (G : List Rat) (k : Rat) : WF (rdF a x G k) := by
  unfold rdF; split
  · trivial
  · exact WM_rdM G _
theorem Bd_rd {a : List LL} {x : List QQ} {G : List Rat} {k : Rat} {K : Nat} (hG : ∀ g ∈ G, lQ g ≤ K) (hl : G.length < 1000000) (hk : lQ k ≤ K) : Bd G.length (K + 2) (rdF a x G k) := by
  unfold rdF; split
  · exact Bd_zero
  · have h := Bd_rdM hG G.length (Nat.le_refl _) hl
    refine ⟨h.1, fun m hm => ⟨(h.2.1 m hm).1, by have := (h.2.1 m hm).2; omega⟩, ?_⟩
    have h1 := lN_floor (-k)
    have h2 := lQ_neg k
    have h3 := lQ_num (-k)
    show lN (-(-k).floor) ≤ K + 2
    rw [lN_neg]; omega
theorem round_both (a : List LL) (x : List QQ) {A N L K V : Nat} (hA : a.length ≤ A) (hA2 : A < 1000000) (hx : x.length < 1000000) (hL1 : 1 ≤ L) (hK1 : 1 ≤ K) (hL : L + K ≤ 900) (hN : N ≤ 1000000) (hB : 1 + A * (L + K + 1) ≤ 900) (ha : ∀ l ∈ a, BL N L l) (hV : ∀ l ∈ a, lastV (lv l) ≤ V) (hV' : V < 1000000) (hxk : ∀ q ∈ x, q.2.1.length ≤ K ∧ q.2.2.length ≤ K) :
    ∃ (G : List Rat) (k : Rat), G = fnL (nV (a.map lv)) (cS (a.map lv) (x.map qQ) (min a.length x.length)) ∧ k = kS (a.map lv) (x.map qQ) (min a.length x.length) ∧
      PCall Tryz.prog 36 [.one (eL cL a), tLQ x] (.tup [eF (rdF a x G k), tB (decide (¬ rdC a x G))]) ∧ PCall Tryz.prog 37 [.one (eL cL a), tLQ x] (.tup [eF (rdF a x G k), tB (decide (¬ rdC a x G))]) ∧
      WF (rdF a x G k) ∧ Bd V 902 (rdF a x G k) := by
  obtain ⟨m, hm⟩ : ∃ m, m = min a.length x.length := ⟨_, rfl⟩
  have h1 := s_Sum a (x.take m) hA (by omega) (by rw [List.length_take]; omega) hL1 hK1 (by omega) hN (by omega) ha hV hV' (fun q hq => hxk q (List.mem_of_mem_take hq))
  have h2 := f6_Sum a x hA (by omega) hx hL1 hK1 (by omega) hN (by omega) ha hV hV' hxk
  rw [show min a.length (x.take m).length = m by rw [List.length_take]; omega, List.map_take, kS_take _ _ _ _ (Nat.le_refl _), fnL_congr (g' := cS (a.map lv) (x.map qQ) m) fun v => cS_take _ _ _ _ _ (Nat.le_refl _)] at h1
  rw [← hm] at h2
  have hls : ∀ f ∈ a.map lv, Bd N L f := fun f hf => by obtain ⟨l, hl, rfl⟩ := List.mem_map.1 hf; exact Bd_lv (ha l hl)
  have hqs : ∀ q ∈ x.map qQ, lQ q ≤ K := fun q hq => by
    obtain ⟨r, hr, rfl⟩ := List.mem_map.1 hq
    have h1 := hxk r hr
    have h2 := lQ_qv r.1 r.2.1 r.2.2
    unfold qQ; omega
  have hmA : m * (L + K + 1) ≤ A * (L + K + 1) := Nat.mul_le_mul_right _ (by omega)
  have hnV : nV (a.map lv) ≤ V := by
    have := nV_le (B := V) (ls := a.map lv) (fun f hf => by obtain ⟨l, hl, rfl⟩ := List.mem_map.1 hf; exact hV l hl) (a.map lv).length
    rwa [List.take_of_length_le (Nat.le_refl _)] at this
  have hGl : (fnL (nV (a.map lv)) (cS (a.map lv) (x.map qQ) m)).length ≤ V := by rw [fnL_len]; exact hnV
  have hGk : ∀ g ∈ fnL (nV (a.map lv)) (cS (a.map lv) (x.map qQ) m), lQ g ≤ 900 := fun g hg => by
    obtain ⟨i, hi, rfl⟩ := List.mem_iff_getElem.1 hg
    rw [fnL_get]
    have := lQ_cS hL1 hK1 hls hqs i m; omega
  have hk : lQ (kS (a.map lv) (x.map qQ) m) ≤ 900 := by have := lQ_kS hL1 hK1 hls hqs m; omega
  refine ⟨_, _, by rw [hm], by rw [hm], ?_, ?_, WF_rd _ _ _ _, (Bd_rd (K := 900) hGk (by omega) hk).mono hGl (Nat.le_refl _)⟩
  · rw [← rdT_eq]
    exact c_Round a x _ _ (K := 900) (by omega) (by omega) (by rw [← hm]; exact h1) (by omega) hx (fun q hq => by have := hxk q hq; omega) (by omega) hGk hk
  · rw [← rdT_eq]
    exact r20_Round a x _ _ h2 (by omega) hx (fun q hq => by have := hxk q hq; omega) (by omega) (fun g hg => by have := hGk g hg; omega) (by omega)
/-! ### One form of one variable -/
theorem rdM_single {n w : Nat} {g : Nat → Rat} (hw : w < n) (hg : ∀ v, v ≠ w → g v = 0) (hz : ¬ (g w).num = 0) : ∀ j, j ≤ n → rdM (fnL n g) j = if w < j then [(w, (g w).num)] else []
  | 0, _ => rfl
  | j + 1, hj => by
    have hd : (fnL n g).getD j 0 = g j := by rw [List.getD_eq_getElem?_getD, List.getElem?_eq_getElem (by rw [fnL_len]; omega)]; exact fnL_get _
    show (if ((fnL n g).getD j 0).num = 0 then rdM (fnL n g) j else rdM (fnL n g) j ++ [(j, ((fnL n g).getD j 0).num)]) = _
    rw [hd, rdM_single hw hg hz j (by omega)]
    by_cases e : j = w
    · subst e
      rw [if_neg hz, if_neg (by omega), if_pos (by omega)]; rfl
    · rw [hg j e, if_pos (show (0 : Rat).num = 0 from rfl)]
      by_cases c : w < j
      · rw [if_pos c, if_pos (by omega)]
      · rw [if_neg c, if_neg (by omega)]
theorem floor_half (k : Int) : (Rat.divInt (2 * k + 1) 2).floor = k := by
  have h : Rat.divInt (2 * k + 1) 2 = (k : Rat) + (1 : Rat) / 2 := by
    rw [Rat.divInt_eq_div, Rat.intCast_add, Rat.intCast_mul]
    have : ((2 : Int) : Rat) = 2 := rfl
    have : ((1 : Int) : Rat) = 1 := rfl
    grind
  have h1 : k ≤ (Rat.divInt (2 * k + 1) 2).floor := by rw [Rat.le_floor_iff, h]; grind
  have h2 : (Rat.divInt (2 * k + 1) 2).floor < k + 1 := by rw [Rat.floor_lt_iff, h, Rat.intCast_add]; have : ((1 : Int) : Rat) = 1 := rfl; grind
  omega
/-- 2 x - (2 k + 1). -/
abbrev oddF (w : Nat) (k : Int) : Fm := ([(w, 2)], -(2 * k + 1))
abbrev intF (w : Nat) (k : Int) : Fm := ([(w, 1)], -k)
theorem odd_sum (w : Nat) (k : Int) (q : Rat) : nV [oddF w k] = w + 1 ∧ (∀ v, cS [oddF w k] [q] 1 v = if v = w then 2 * q else 0) ∧ kS [oddF w k] [q] 1 = -((2 * k + 1 : Int) : Rat) * q := by
  refine ⟨?_, fun v => ?_, ?_⟩
  · show max 0 (w + 1) = w + 1; omega
  · show (0 : Rat) + ((if w = v then (2 : Int) else 0 : Int) : Rat) * q = _
    by_cases e : v = w
    · rw [if_pos e, if_pos e.symm, Rat.zero_add]; rfl
    · rw [if_neg e, if_neg (fun h => e h.symm), Rat.zero_add]; exact Rat.zero_mul q
  · show (0 : Rat) + ((-(2 * k + 1) : Int) : Rat) * q = _
    rw [Rat.zero_add, Rat.intCast_neg]
theorem WF_odd (w : Nat) (k : Int) : WF (oddF w k) := ⟨Nat.zero_le _, by show (2 : Int) ≠ 0; decide, trivial⟩
theorem Bd_odd {w : Nat} {k : Int} (hw : w < 1000) (hk : -100000 < k ∧ k < 100000) : Bd 1 1 (oddF w k) :=
  ⟨Nat.le_refl _, (fun m hm => by obtain rfl := List.mem_singleton.1 hm; exact ⟨by show w < _; omega, lN_small (by omega)⟩), by show lN (-(2 * k + 1)) ≤ 1; exact lN_small (by omega)⟩
theorem Bd_int {w : Nat} {k : Int} (hw : w < 1000) (hk : -100000 < k ∧ k < 100000) : Bd 1 1 (intF w k) :=
  ⟨Nat.le_refl _, (fun m hm => by obtain rfl := List.mem_singleton.1 hm; exact ⟨by show w < _; omega, lN_small (by omega)⟩), by show lN (-k) ≤ 1; exact lN_small (by omega)⟩
theorem WF_intF (w : Nat) (k : Int) : WF (intF w k) := ⟨Nat.zero_le _, by show (1 : Int) ≠ 0; decide, trivial⟩
/-- A slice of one form, as it is built. -/
theorem tw_one {f : Fm} : TVW (.one (.seq (some false) [cF f])) (.one (eL cL [encL f])) := .one (by
  have e : eL cL [encL f] = .seq none [cF f] := by
    show T.seq none [cL (encL f)] = _
    congr 2
    show [eL cM (f.1.map eMn), _, _] = _; rw [eL_eMn]; rfl
  rw [e]; exact .weak)
theorem tw_oneQ {q : Rat} : TVW (.one (.seq (some false) [cR q])) (.one (eL cQ [rawQ q])) := .one .weak
theorem rawQ_len {q : Rat} {K : Nat} (h : lQ q ≤ K) : ∀ x ∈ [rawQ q], x.2.1.length ≤ K ∧ x.2.2.length ≤ K := fun x hx => by
  obtain rfl := List.mem_singleton.1 hx
  have h2 := lQ_num q
  have h3 := lQ_den q
  rw [lN_nat'] at h3
  unfold lN at h2
  exact ⟨by show (dig q.num.natAbs).length ≤ K; omega, by show (dig q.den).length ≤ K; omega⟩
theorem lv_one {f : Fm} (h : WF f) : [encL f].map lv = [f] := by show [lv (encL f)] = [f]; rw [lv_enc h]
theorem round_odd (w : Nat) (k : Int) (q : Rat) (hw : w < 1000) (hk : -100000 < k ∧ k < 100000) (hq : lQ q ≤ 3) : ∃ G, G = fnL (w + 1) (fun v => if v = w then 2 * q else 0) ∧
    PCall Tryz.prog 36 [.one (.seq (some false) [cF (oddF w k)]), .one (.seq (some false) [cR q])] (.tup [eF (rdF [encL (oddF w k)] [rawQ q] G (-((2 * k + 1 : Int) : Rat) * q)), tB (decide (¬ rdC [encL (oddF w k)] [rawQ q] G))]) := by
  have hb := Bd_odd hw hk
  obtain ⟨G, kk, h1, h2, h3, _⟩ := round_both [encL (oddF w k)] [rawQ q] (A := 1) (N := 1) (L := 3) (K := 3) (V := 1001) (by simp) (by decide) (by simp) (by decide) (by decide) (by decide) (by decide) (by decide)
    (fun l hl => by obtain rfl := List.mem_singleton.1 hl; exact BL_enc (hb.mono (Nat.le_refl _) (by decide)))
    (fun l hl => by obtain rfl := List.mem_singleton.1 hl; rw [lv_enc (WF_odd w k)]; show w + 1 ≤ 1001; omega) (by decide) (rawQ_len hq)
  have h3 := h3.tw (.cons tw_one (.cons tw_oneQ .nil))
  obtain ⟨s1, s2, s3⟩ := odd_sum w k q
  rw [lv_one (WF_odd w k), s1, show [rawQ q].map qQ = [q] by show [qQ (rawQ q)] = _; rw [qQ_raw], show min [encL (oddF w k)].length [rawQ q].length = 1 from rfl] at h1
  rw [lv_one (WF_odd w k), show [rawQ q].map qQ = [q] by show [qQ (rawQ q)] = _; rw [qQ_raw], show min [encL (oddF w k)].length [rawQ q].length = 1 from rfl, s3] at h2
  rw [fnL_congr s2] at h1
  rw [h2] at h3
  exact ⟨G, h1, h3⟩
theorem half_val : Rat.divInt 1 2 = (1 : Rat) / 2 := by rw [Rat.divInt_eq_div]; rfl
theorem lQ_small {q : Rat} (h1 : q.num.natAbs < 1000000000) (h2 : q.den < 1000000000) : lQ q ≤ 1 := by
  have e1 : lN q.num ≤ 1 := lN_small (by omega)
  have e2 : lN (q.den : Int) ≤ 1 := lN_small (by omega)
  unfold lQ; omega
theorem round_half (w : Nat) (k : Int) (hw : w < 1000) (hk : -100000 < k ∧ k < 100000) :
    PCall Tryz.prog 36 [.one (.seq (some false) [cF (oddF w k)]), .one (.seq (some false) [cR (Rat.divInt 1 2)])] (.tup [eF (intF w k), tB true]) := by
  obtain ⟨G, hG, h⟩ := round_odd w k (Rat.divInt 1 2) hw hk (Nat.le_trans (lQ_small (by decide) (by decide)) (by decide))
  have h2 : (2 : Rat) * Rat.divInt 1 2 = 1 := by rw [half_val]; grind
  rw [h2] at hG
  have hno : ¬ rdC [encL (oddF w k)] [rawQ (Rat.divInt 1 2)] G := by
    rintro (⟨q, hq, hneg⟩ | ⟨g, hg, hd⟩)
    · have hq : q ∈ [rawQ (Rat.divInt 1 2)] := List.mem_of_mem_take hq
      obtain rfl := List.mem_singleton.1 hq
      rw [qQ_raw] at hneg
      exact absurd hneg (by decide)
    · rw [hG] at hg
      obtain ⟨i, hi, rfl⟩ := List.mem_iff_getElem.1 hg
      rw [fnL_get] at hd
      refine hd ?_
      show (if i = w then (1 : Rat) else 0).den = 1
      split <;> rfl
  have e : rdF [encL (oddF w k)] [rawQ (Rat.divInt 1 2)] G (-((2 * k + 1 : Int) : Rat) * Rat.divInt 1 2) = intF w k := by
    unfold rdF
    rw [if_neg hno, hG, fnL_len, rdM_single (w := w) (by omega) (fun v hv => by show (if v = w then (1 : Rat) else 0) = 0; rw [if_neg hv]) (by show ¬ (if w = w then (1 : Rat) else 0).num = 0; rw [if_pos rfl]; decide) (w + 1) (Nat.le_refl _), if_pos (by omega)]
    refine Prod.ext ?_ ?_
    · show [(w, (if w = w then (1 : Rat) else 0).num)] = [(w, 1)]
      rw [if_pos rfl]; rfl
    · show -(-(-((2 * k + 1 : Int) : Rat) * Rat.divInt 1 2)).floor = -k
      have : -(-((2 * k + 1 : Int) : Rat) * Rat.divInt 1 2) = Rat.divInt (2 * k + 1) 2 := by
        rw [half_val, Rat.divInt_eq_div]
        have : ((2 : Int) : Rat) = 2 := rfl
        grind
      rw [this, floor_half]
  rw [e, decide_eq_true hno] at h
  exact h
end Go.Proofs.YtfgejnedaijjiaaGreat
namespace Go.Proofs.YtfgejnedaijjiaaGreat
open Go Go.Abs
set_option maxHeartbeats 16000000
theorem norm_odd (w : Nat) (k : Int) : normF (oddF w k) = intF w k ∧ clF (oddF w k) = 1 := by
  refine ⟨?_, if_neg (by simp)⟩
  rw [norm_single w 2 _ (by decide)]
  refine Prod.ext rfl ?_
  show -(Int.fdiv (-(-(2 * k + 1))) 2) = -k
  rw [Int.neg_neg, Int.fdiv_eq_ediv_of_nonneg _ (by decide)]; omega
theorem cuts_odd (w : Nat) (k : Int) (x : List QQ) (hw : w < 1000) (hk : -100000 < k ∧ k < 100000) (hx : x.length < 1000000) {K : Nat} (hK : K ≤ 20) (hK1 : 1 ≤ K) (hxk : ∀ q ∈ x, q.2.1.length ≤ K ∧ q.2.2.length ≤ K) (hp : (k : Rat) < ptQ x w) :
    PCall Tryz.prog 44 [.one (.seq (some false) [cF (oddF w k)]), tLQ x] (.one (eL cF [intF w k])) := by
  have h := c_Cuts [encL (oddF w k)] x (N := 1) (L := 1) (K := K) (by simp) hx (by decide) (by decide) (by decide) hK hK1 (fun l hl => by obtain rfl := List.mem_singleton.1 hl; exact BL_enc (Bd_odd hw hk)) hxk
  have h := h.tw (.cons tw_one (.cons .refl1 .nil))
  rw [lv_one (WF_odd w k)] at h
  have e : cutsL (ptQ x) [oddF w k] = [intF w k] := by
    show cutsF (ptQ x) [] (oddF w k) = _
    unfold cutsF
    obtain ⟨e1, e2⟩ := norm_odd w k
    have hpos : 0 < atQ (intF w k) (ptQ x) := by
      show 0 < ((-k : Int) : Rat) + (((1 : Int) : Rat) * ptQ x w + 0)
      rw [Rat.intCast_neg]
      have : ((1 : Int) : Rat) = 1 := rfl
      grind
    rw [e1, e2, if_pos ⟨rfl, by simp, hpos⟩]; rfl
  rwa [e] at h
theorem branch_form (v : Nat) (n : Int) : addF (addF ([], 0) (scF (varF v) 1)) (scF (constF n) (-1)) = intF v n := by
  rw [add_zero_left]
  unfold scF
  rw [if_neg (by decide), if_neg (by decide)]
  show (mer [(v, (1 : Int) * 1)] [], (0 : Int) * 1 + n * -1) = _
  rw [mer_nil_right]; refine Prod.ext rfl ?_
  show (0 : Int) * 1 + n * -1 = -n; omega
theorem at_intF (v : Nat) (n : Int) (p : Nat → Int) : atF (intF v n) p = p v - n := by
  show -n + (1 * p v + 0) = _; omega
theorem ptQ_raw (q : Rat) : ptQ [rawQ q] 0 = q := by show qQ (rawQ q) = q; exact qQ_raw q
set_option maxRecDepth 100000 in
theorem known21 : PCall Tryz.prog 33 [] (tB true) := by
  refine pcall_of_wpA mixed Tryz.call33 Tryz.func33 rfl Tryz.ntmps33 Tryz.results33 (by simp) (by decide) ?_
  obtain ⟨u1, h1⟩ : ∃ c : Int, c = 1 := ⟨_, rfl⟩
  obtain ⟨u2, h2⟩ : ∃ c : Int, c = 2 := ⟨_, rfl⟩
  obtain ⟨m1, h3⟩ : ∃ c : Int, c = -1 := ⟨_, rfl⟩
  obtain ⟨V0, hV0⟩ : ∃ f : Fm, f = varF 0 := ⟨_, rfl⟩
  obtain ⟨V3, hV3⟩ : ∃ f : Fm, f = varF 3 := ⟨_, rfl⟩
  obtain ⟨H, hH⟩ : ∃ q : Rat, q = Rat.divInt 1 2 := ⟨_, rfl⟩
  have o1 : PCall Tryz.prog 24 [tI .i64 1] (eI u1) := by rw [h1]; exact i_Of 1 (by decide) (by decide)
  have o2 : PCall Tryz.prog 24 [tI .i64 2] (eI u2) := by rw [h2]; exact i_Of 2 (by decide) (by decide)
  have om1 : PCall Tryz.prog 24 [tI .i64 (-1)] (eI m1) := by rw [h3]; exact i_Of (-1) (by decide) (by decide)
  have l1 : lN u1 ≤ 1 := lN_small (by omega)
  have l2 : lN u2 ≤ 1 := lN_small (by omega)
  have l3 : lN m1 ≤ 1 := lN_small (by omega)
  have v0 : PCall Tryz.prog 28 [tI .i64 0] (eF V0) := by rw [hV0]; exact f6_Var 0 (by decide) (by decide)
  have v3 : PCall Tryz.prog 28 [tI .i64 3] (eF V3) := by rw [hV3]; exact f6_Var 3 (by decide) (by decide)
  have b0 : Bd 1 1 V0 := by rw [hV0]; exact Bd_single (by decide) (lN_small (by decide)) (by rw [lN_zero]; omega)
  have b3 : Bd 1 1 V3 := by rw [hV3]; exact Bd_single (by decide) (lN_small (by decide)) (by rw [lN_zero]; omega)
  have w0 : WF V0 := by rw [hV0]; exact WF_var 0
  have sc := f6_Scale_e V0 u2 (by decide) (by decide) w0 b0 (by omega)
  have wS := WF_sc w0 u2
  have bS := Bd_sc b0 u2
  have co := f6_Const_e m1 (by omega)
  have ad := f6_Add_e (scF V0 u2) (constF m1) (N := 2) (L := 2) (by decide) (by decide) wS (WF_const m1) (bS.mono (by decide) (by omega)) ⟨Nat.zero_le _, (fun m hm => by cases hm), by show lN m1 ≤ 2; omega⟩
  have eO : addF (scF V0 u2) (constF m1) = oddF 0 0 := by
    rw [hV0, h2, h3]
    unfold scF
    rw [if_neg (by decide)]
    show (mer [(0, (1 : Int) * 2)] [], (0 : Int) * 2 + -1) = _
    rw [mer_nil_right]; rfl
  rw [eO] at ad
  have ra := r_RatOf_e u1 u2 (by omega) (by omega)
  rw [h1, h2, ← hH, ← h1, ← h2] at ra
  have ro := round_half 0 0 (by decide) (by decide)
  have lH : lQ H ≤ 1 := by rw [hH]; exact lQ_small (by decide) (by decide)
  have fl : H.floor = 0 := by rw [hH]; exact floor_half 0
  have br := c_Branch 3 (rawQ H) (K := 1) (by decide) (by decide) (by decide) (by decide) (rawQ_len lH _ (List.mem_singleton.2 rfl)).1 (rawQ_len lH _ (List.mem_singleton.2 rfl)).2 _ rfl
  rw [qQ_raw, fl, show ((3 : Int).toNat) = 3 from rfl, branch_form] at br
  have cu := (cuts_odd 0 0 [rawQ H] (by decide) (by decide) (by simp) (K := 1) (by decide) (by decide) (rawQ_len lH) (by rw [ptQ_raw, hH]; decide)).tw (tvs' := [.one (.seq (some false) [cF (oddF 0 0)]), .one (.seq (some false) [cR H])]) (.cons .refl1 (.cons tw_oneQ .nil))
  rw [← hH] at ro
  have eI0 : intF 0 0 = V0 := by rw [hV0]; rfl
  have eI3 : intF 3 0 = V3 := by rw [hV3]; rfl
  have wV3 : WF V3 := by rw [hV3]; exact WF_var 3
  rw [eI0] at ro cu
  rw [eI3] at br
  have q1 := tB_of (f6_Equal V0 V0 (by decide) (by decide) b0 b0) rfl
  have q2 := tB_of (f6_Equal V3 V3 (by decide) (by decide) b3 b3) rfl
  have bn := Bd_not (by decide) b3
  have ho := tB_of (f6_Holds (encL (notF V3)) [(false, []), (false, []), (false, []), (decide (u1 < 0), dig u1.natAbs)] (N := 1 + 1) (L := 4) (K := 1) (by decide) (by decide) (by decide) (BL_enc (bn.mono (by decide) (by decide))) (by simp) (fun q hq => by
    rcases List.mem_cons.1 hq with rfl | hq
    · decide
    · rcases List.mem_cons.1 hq with rfl | hq
      · decide
      · rcases List.mem_cons.1 hq with rfl | hq
        · decide
        · obtain rfl := List.mem_singleton.1 hq; exact l1)) (by
    rw [lv_enc (WF_not wV3), at_not, hV3]
    show 1 - atF (intF 3 0) _ ≤ 0
    rw [at_intF]
    show 1 - (iv (decide (u1 < 0)) (dig u1.natAbs) - 0) ≤ 0
    rw [iv_eI, h1]; decide)
  rw [gL_encL] at ho
  have ho : PCall Tryz.prog 46 [eF (notF V3), .one (.seq (some false) [[.lit (.bool false), .seq (some true) []], [.lit (.bool false), .seq (some true) []], [.lit (.bool false), .seq (some true) []], [.lit (.bool (decide (u1 < 0))), eN (dig u1.natAbs)]])] (tB true) :=
    ho.tw (.cons .reflA (.cons (.one (TW.list (.inr rfl) (.cons (.cons .refl (.cons .weak .nil)) (.cons (.cons .refl (.cons .weak .nil)) (.cons (.cons .refl (.cons .weak .nil)) (.cons TWs.refl .nil)))))) .nil))
  generalize notF V3 = NF at *
  generalize oddF 0 0 = O at *
  generalize scF V0 u2 = S at *
  generalize constF m1 = C at *
  clear h1 h2 h3 hV0 hV3 hH eO eI0 eI3
  simp only [go_sem]
  ((repeat (refine regA_by 0 rfl ?_; simp only [go_sem])); refine call_pure (v0) rfl ?_; simp only [go_sem]; (repeat (refine regA_by 0 rfl ?_; simp only [go_sem])); refine call_pure (o2) rfl ?_; simp only [go_sem]; (repeat (refine regA_by 0 rfl ?_; simp only [go_sem])); refine call_pure (sc) rfl ?_; simp only [go_sem]; (repeat (refine regA_by 0 rfl ?_; simp only [go_sem])); refine call_pure (om1) rfl ?_; simp only [go_sem]; (repeat (refine regA_by 0 rfl ?_; simp only [go_sem])); refine call_pure (co) rfl ?_; simp only [go_sem]; (repeat (refine regA_by 0 rfl ?_; simp only [go_sem])); refine call_pure (ad) rfl ?_; simp only [go_sem]; (repeat (refine regA_by 0 rfl ?_; simp only [go_sem])); refine call_pure (o1) rfl ?_; simp only [go_sem]; (repeat (refine regA_by 0 rfl ?_; simp only [go_sem])); refine call_pure (o2) rfl ?_; simp only [go_sem]; (repeat (refine regA_by 0 rfl ?_; simp only [go_sem])); refine call_pure (ra) rfl ?_; simp only [go_sem]; (repeat (refine regA_by 0 rfl ?_; simp only [go_sem])); refine call_pure (ro) rfl ?_; simp only [go_sem]; (repeat (refine regA_by 0 rfl ?_; simp only [go_sem])); refine call_pure (br) rfl ?_; simp only [go_sem]; (repeat (refine regA_by 0 rfl ?_; simp only [go_sem])); refine call_pure (cu) rfl ?_; simp only [go_sem]; (repeat (refine regA_by 0 rfl ?_; simp only [go_sem])); refine call_pure (v0) rfl ?_; simp only [go_sem]; (repeat (refine regA_by 0 rfl ?_; simp only [go_sem])); refine call_pure (q1) rfl ?_; simp only [go_sem]; (repeat (refine regA_by 0 rfl ?_; simp only [go_sem])); refine call_pure (v3) rfl ?_; simp only [go_sem]; (repeat (refine regA_by 0 rfl ?_; simp only [go_sem])); refine call_pure (q2) rfl ?_; simp only [go_sem]; (repeat (refine regA_by 0 rfl ?_; simp only [go_sem])); refine call_pure (o1) rfl ?_; simp only [go_sem]; (repeat (refine regA_by 0 rfl ?_; simp only [go_sem])); refine call_pure (ho) rfl ?_; simp only [go_sem]; (repeat (refine regA_by 0 rfl ?_; simp only [go_sem])))
end Go.Proofs.YtfgejnedaijjiaaGreat
