/- At every input the call answers true and leaves its arguments as they were; no conditions. -/
import Derived.Test.YtjmbhknhiakkpaaGreatUb
import Derived.Test.YtjmbhknhiakkpaaGreatNz
import Derived.Test.YtjmbhknhiakkpaaGreatMi
set_option linter.unusedSimpArgs false
set_option linter.unusedVariables false
namespace Go.Proofs.YtjmbhknhiakkpaaGreat
open Go Go.Abs
set_option maxHeartbeats 32000000
/-- What the made maker is, as a tree. -/
def outT (S : HX) : List C := [.t (eW (rawM S.R S.n S.h)), .t (eW (rawM S.n S.n S.u)), .t (eW (rawM S.n S.n S.v))]
theorem call_made {m : Nat} {σ : St} {Kp : AV → St → Prop} (a : List (List RI)) (n : Nat) {K L : Nat} {ys : List AV} (hm : m = 1 ∨ m = 2) (hK : K ≤ 4000000000) (hL : L ≤ 10000000000) (hn : n ≤ 40) (hR : a.length < 40000) (ha : ∀ row ∈ a, LR L row) (hb : LBmade K (atW a) n a.length)
    (hys : ys = [.one (.t (eW a)), litI .i64 n]) (hH : σ.H 900000 = none)
    (hK2 : Kp (.tup [.one (.ptr 900000 0), .one (.t (eL cI1 (fnG a.length (pvS (atW a) n a.length))))]) (σ.withH (upd σ.H 900000 (some (outT (madeS (atW a) n a.length a.length).1))))) : CallA Tryz.prog m 31 ys σ Kp := by
  have hX : ∀ b, lookH (outH (madeS (atW a) n a.length a.length).1) b ≠ none → b = 900000 := fun b hb => by
    unfold outH at hb
    have hb : (if b = 900000 then some _ else none) ≠ none := hb
    by_cases e : b = 900000
    · exact e
    · rw [if_neg e] at hb; exact (hb rfl).elim
  refine call_nc (H' := upd σ.H 900000 (some (outT (madeS (atW a) n a.length a.length).1))) id hm (h_made a n hK hL hn hR ha hb) hys (fun b hb => ?_) (fun b b' hb hb' _ => ?_) (fun b cs hb => ?_) (fun x hx => ?_) ?_
  · obtain rfl := hX b hb; exact ⟨hH, by decide⟩
  · rw [hX b hb, hX b' hb']
  · obtain rfl := hX b (by rw [hb]; simp)
    show (if 900000 = 900000 then _ else _) = _
    rw [if_pos rfl]
    unfold outH at hb
    have hb : (if 900000 = 900000 then some _ else none) = some cs := hb
    rw [if_pos rfl] at hb
    cases hb; rfl
  · show (if x = 900000 then _ else _) = _
    rw [if_neg]
    intro e
    refine hx 900000 ?_ (by rw [e]; rfl)
    unfold outH
    show (if 900000 = 900000 then some _ else none) ≠ none
    rw [if_pos rfl]; simp
  · exact hK2
attribute [go_sem] outT
theorem fz_tup3 {H : Heap} {a b c : AV} {x y z : TV} (h1 : FzA H a x) (h2 : FzA H b y) (h3 : FzA H c z) : FzA H (.tup [a, b, c]) (.tup [x, y, z]) := .tup rfl fun j hj hj' => by
  match j, hj with
  | 0, _ => exact h1
  | 1, _ => exact h2
  | 2, _ => exact h3
theorem h_Form (a : List (List RI)) (n : Nat) {K L : Nat} (hK : K ≤ 4000000000) (hL : L ≤ 10000000000) (hn : n ≤ 40) (hR : a.length < 40000) (ha : ∀ row ∈ a, LR L row) (hb : LBmade K (atW a) n a.length) {S : HX} (hS : S = (madeS (atW a) n a.length a.length).1) :
    PCall Tryz.prog 14 [.one (eW a), tI .i64 n] (.tup [.one (eW (rawM S.R S.n S.h)), .one (eW (rawM S.n S.n S.u)), .one (eW (rawM S.n S.n S.v))]) := by
  refine pcall_of_wpA mixed Tryz.call14 Tryz.func14 rfl Tryz.ntmps14 Tryz.results14 (by simp) (by decide) ?_
  simp only [go_sem]
  refine call_made a n (.inr rfl) hK hL hn hR ha hb rfl (by simp only [go_sem] <;> rfl) ?_
  rw [← hS]
  simp only [go_sem]
  refine regA_by 0 rfl ?_
  simp only [go_sem]
  exact fz_tup3 (.one .t) (.one .t) (.one .t)
/-- A matrix of own rows is answered. -/
theorem fz_mat {H : Heap} {hb b n R : Nat} {g : Nat → Nat → Int} (h1 : H hb = some (rowsC b 2 n R)) (hr : ∀ i, i < R → H (b + i) = some (cellsL cJ (fnG n (g i)))) : FzA H (.one (.vec hb 1 0 R)) (.one (eW (rawM R n g))) := by
  have hl : ((rawM R n g).map cMw).length = R := by rw [List.length_map, rawM_len]
  refine .one (.vec (by decide) h1 hl (fun x hx => ?_) (by rw [rowsC_len]; omega) fun i hi j hj h => ?_)
  · obtain ⟨r, _, rfl⟩ := List.mem_map.1 hx; rfl
  · have hi' : i < R := by rw [hl] at hi; exact hi
    have e1 : (rowsC b 2 n R)[0 + (i * 1 + j)] = .vec (b + i) 2 0 n := by
      have hj0 : j = 0 := by
        simp only [List.getElem_map] at hj
        have : j < 1 := hj
        omega
      subst hj0
      have hh : 0 + (i * 1 + 0) = i := by omega
      have := rowsC_at (b := b) (sz := 2) (len := n) hi'
      rw [List.drop_eq_getElem_cons (by rw [rowsC_len]; exact hi')] at this
      simp only [hh]
      exact (List.cons.inj this).1
    have hj0 : j = 0 := by
      simp only [List.getElem_map] at hj
      have : j < 1 := hj
      omega
    subst hj0
    rw [e1]
    simp only [List.getElem_map]
    have e2 : (rawM R n g)[i]'(by rw [rawM_len]; exact hi') = fnG n fun j => encJ (g i j) := fnG_get _
    show FzC H _ (eL cI _)
    rw [e2, ← rowT_raw]
    exact fz_vec cJ_len (hr i hi') (by rw [fnG_len])
theorem xret2 {P : Program} {r1 r2 : ResultVar} {x1 x2 : AV} {X : Heap} {e : Exit} {σ : St} (he : e = .normal ∨ e = .ret) (h1 : resOk P σ r1) (h2 : resOk P σ r2) (h3 : resA P σ r1 = x1) (h4 : resA P σ r2 = x2) (h5 : ∀ b, PIN ≤ b → σ.H b = X b) : xretQ P [r1, r2] (.tup [x1, x2]) X e σ :=
  ⟨he, fun x hx => by
    rcases List.mem_cons.1 hx with rfl | hx
    · exact h1
    · obtain rfl := List.mem_singleton.1 hx; exact h2, by show AV.tup [_, _] = _; rw [h3, h4], h5⟩
/-! ### The product -/
def lA (row : List RI) (b : List (List RI)) (j : Nat) : List (Nat × List C) := [(1000000, [.t (eL cI row)]), (1000001, [.t (eW b)]), (1000002, [.t (.lit (.int .i64 (j : Int)))])]
theorem lA_ok {row : List RI} {b : List (List RI)} {j : Nat} : LK (lA row b j) where
  key := fun k hk => by unfold lA at hk; simp at hk; have : PIN = 1000000 := rfl; omega
  refs := by simp [lA, refsH, refsC]
  all := fun σ h => ⟨h 1000000 _ rfl, h 1000001 _ rfl, h 1000002 _ rfl, trivial⟩
set_option maxRecDepth 100000 in
theorem h_Mul1 (row : List RI) (b : List (List RI)) (j k : Nat) {L : Nat} (hL : L ≤ 10000000000) (hb : ∀ r ∈ b, LR L r) (hj : j < 1000000000) (hk : k < row.length) (hk2 : k < b.length) (hrl : row.length < 1000000000) :
    MCall Tryz.prog 34 [litI .i64 k, .one (.ptr PIN 0), .one (.ptr (PIN + 1) 0), .one (.ptr (PIN + 2) 0)] (lookH (lA row b j)) (.tup [.agg ((cI row[k]).map .t), .agg ((cI (encJ (atR b[k] j))).map .t)]) (lookH (lA row b j)) := by
  have hl := lA_ok (row := row) (b := b) (j := j)
  refine mcall_of_wpX mixed Tryz.call34 Tryz.func34 rfl Tryz.ntmps34 Tryz.results34 (by simp) (by decide) ?_ ?_ ?_ ?_ ?_
  · exact low_of hl.key
  · exact fun b => Iff.rfl
  · exact cl_of_refs hl.refs
  · exact ⟨fun c hc => by obtain ⟨t, _, rfl⟩ := List.mem_map.1 hc; trivial, fun c hc => by obtain ⟨t, _, rfl⟩ := List.mem_map.1 hc; trivial, trivial⟩
  · have o1 := h_place b[k] j hL (hb _ (List.getElem_mem hk2)) hj
    have e1 : elemD cI row k = cI row[k] := elemD_lt hk
    have e2 : elemD cMw b k = cMw b[k] := elemD_lt hk2
    have hI1 : ((k : Int) < (row.length : Int)) = True := eq_true (by omega)
    have hI2 : ((k : Int) < (b.length : Int)) = True := eq_true (by omega)
    generalize row[k] = p at *
    generalize b[k] = br at *
    simp only [go_sem, PIN, lA]
    refine regA_by 0 rfl ?_
    simp only [go_sem, PIN, lA, e1, e2, hI1, hI2, cI]
    (repeat (refine And.intro (by omega) ?_))
    ((repeat (refine regA_by 0 rfl ?_; simp only [go_sem, PIN, lA, e1, e2, hI1, hI2, cI])); refine call_pure (o1) rfl ?_; simp only [go_sem, PIN, lA, e1, e2, hI1, hI2, cI]; (repeat (refine regA_by 0 rfl ?_; simp only [go_sem, PIN, lA, e1, e2, hI1, hI2, cI])))
    refine xret2 (.inr rfl) ?_ ?_ ?_ ?_ ?_
    · simp only [go_sem]
    · simp only [go_sem]
    · simp only [go_sem]
    · simp only [go_sem]
      rfl
    · repeat (first | exact fun _ _ => rfl | refine upd_hi (by decide) ?_)
theorem lA_in {row : List RI} {b : List (List RI)} {j x : Nat} (h : lookH (lA row b j) x ≠ none) : x = 1000000 ∨ x = 1000001 ∨ x = 1000002 := by
  have h : (if x = 1000000 then some _ else if x = 1000001 then some _ else if x = 1000002 then some _ else none) ≠ none := h
  by_cases e1 : x = 1000000
  · exact .inl e1
  · rw [if_neg e1] at h
    by_cases e2 : x = 1000001
    · exact .inr (.inl e2)
    · rw [if_neg e2] at h
      by_cases e3 : x = 1000002
      · exact .inr (.inr e3)
      · rw [if_neg e3] at h; exact (h rfl).elim
theorem args_lA {row : List RI} {b : List (List RI)} {j : Nat} {n : Int} {F : FuncId} : ∀ x ∈ [litI .i64 n, AV.one (.fn F [(PIN, 0), (PIN + 1, 0), (PIN + 2, 0)])], inA (lookH (lA row b j)) x :=
  List.forall_mem_cons.2 ⟨trivial, List.forall_mem_cons.2 ⟨(fun p hp => by
    unfold lA
    rcases List.mem_cons.1 hp with rfl | hp
    · show lookH _ 1000000 ≠ none; simp [lookH]
    rcases List.mem_cons.1 hp with rfl | hp
    · show lookH _ 1000001 ≠ none; simp [lookH]
    · obtain rfl := List.mem_singleton.1 hp
      show lookH _ 1000002 ≠ none; simp [lookH]), fun x hx => by cases hx⟩⟩
/-- The sum of a row's products with a column, as the product calls it. -/
theorem rd_sumA (row : List RI) (b : List (List RI)) (j m : Nat) {L : Nat} (hL : L ≤ 10000000000) (hb : ∀ r ∈ b, LR L r) (hr : LR L row) (hj : j < 1000000000) (hm : m ≤ row.length) (hm2 : m ≤ b.length) (hm3 : m < 1000000) {c1 c2 c3 : Nat} (h12 : c1 ≠ c2) (h13 : c1 ≠ c3) (h23 : c2 ≠ c3) {H : Heap} (h1 : H c1 = some [.t (eL cI row)]) (h2 : H c2 = some [.t (eW b)]) (h3 : H c3 = some [.t (.lit (.int .i64 (j : Int)))]) :
    RdC Tryz.prog 33 [litI .i64 m, .one (.fn 34 [(c1, 0), (c2, 0), (c3, 0)])] H (.agg ((cJ (smI (fun k => atR row k * atW b k j) m)).map .t)) := by
  have hl := lA_ok (row := row) (b := b) (j := j)
  have hs := h_sum (lA row b j) hl 34 [(PIN, 0), (PIN + 1, 0), (PIN + 2, 0)] (fun p hp => by
      unfold lA
      rcases List.mem_cons.1 hp with rfl | hp
      · simp [PIN]
      rcases List.mem_cons.1 hp with rfl | hp
      · simp [PIN]
      · obtain rfl := List.mem_singleton.1 hp; simp [PIN]) m (fun k => (row[k]?).getD (false, [])) (fun k => encJ (atW b k j)) (A := L) hL hm3 (fun k hk => by
        rw [List.getElem?_eq_getElem (by omega)]; exact hr.2 _ (List.getElem_mem _)) (fun k hk => by
        rw [atW_lt (by omega)]; exact (hb _ (List.getElem_mem (by omega))).at j) (fun k hk => ?_)
  · have e : smI (fun i => vR ((row[i]?).getD (false, [])) * vR (encJ (atW b i j))) m = smI (fun k => atR row k * atW b k j) m := smI_congr fun k hk => by
      rw [vR_enc, List.getElem?_eq_getElem (by omega), atR_lt (by omega)]; rfl
    rw [e] at hs
    refine rd_ren (fun k => if k = 0 then c1 else if k = 1 then c2 else c3) hs (low_of hl.key) (fun b b' hb hb' e => ?_) (cl_of_refs hl.refs) args_lA (fun b cs hb => ?_)
    · have k0 : thI (fun k => if k = 0 then c1 else if k = 1 then c2 else c3) 1000000 = c1 := rfl
      have k1 : thI (fun k => if k = 0 then c1 else if k = 1 then c2 else c3) 1000001 = c2 := rfl
      have k2 : thI (fun k => if k = 0 then c1 else if k = 1 then c2 else c3) 1000002 = c3 := rfl
      rcases lA_in hb with rfl | rfl | rfl <;> rcases lA_in hb' with rfl | rfl | rfl
      · rfl
      · rw [k0, k1] at e; exact (h12 e).elim
      · rw [k0, k2] at e; exact (h13 e).elim
      · rw [k0, k1] at e; exact (h12 e.symm).elim
      · rfl
      · rw [k1, k2] at e; exact (h23 e).elim
      · rw [k0, k2] at e; exact (h13 e.symm).elim
      · rw [k1, k2] at e; exact (h23 e.symm).elim
      · rfl
    · rcases lA_in (x := b) (by rw [hb]; simp) with rfl | rfl | rfl
      · have hb : some [C.t (eL cI row)] = some cs := hb
        cases hb; exact h1
      · have hb : some [C.t (eW _)] = some cs := hb
        cases hb; exact h2
      · have hb : some [C.t (.lit (.int .i64 (j : Int)))] = some cs := hb
        cases hb; exact h3
  · have h := h_Mul1 row b j k (L := L) (by omega) hb hj (by omega) (by omega) hr.1
    rw [List.getElem?_eq_getElem (by omega), atW_lt (by omega)]
    refine rd_ren (fun k => PIN + k) h (low_of hl.key) (fun b b' hb hb' e => ?_) (cl_of_refs hl.refs) (List.forall_mem_cons.2 ⟨trivial, List.forall_mem_cons.2 ⟨by unfold lA; show lookH _ 1000000 ≠ none; simp [lookH], List.forall_mem_cons.2 ⟨by unfold lA; show lookH _ 1000001 ≠ none; simp [lookH], List.forall_mem_cons.2 ⟨by unfold lA; show lookH _ 1000002 ≠ none; simp [lookH], fun x hx => by cases hx⟩⟩⟩⟩) (fun b cs hb => ?_)
    · rcases lA_in hb with rfl | rfl | rfl <;> rcases lA_in hb' with rfl | rfl | rfl <;> first | rfl | (exact absurd e (by decide))
    · rcases lA_in (x := b) (by rw [hb]; simp) with rfl | rfl | rfl
      · have hb : some [C.t (eL cI row)] = some cs := hb
        cases hb; rfl
      · have hb : some [C.t (eW _)] = some cs := hb
        cases hb; rfl
      · have hb : some [C.t (.lit (.int .i64 (j : Int)))] = some cs := hb
        cases hb; rfl
end Go.Proofs.YtjmbhknhiakkpaaGreat
namespace Go.Proofs.YtjmbhknhiakkpaaGreat
open Go Go.Abs
set_option maxHeartbeats 32000000
/-- So many places a row has. -/
def widR (b : List (List RI)) : Nat := match b with | [] => 0 | r :: _ => r.length
/-- The product of matrices. -/
def prW (a b : List (List RI)) (i j : Nat) : Int := match a[i]? with | some row => smI (fun k => atR row k * atW b k j) (min row.length b.length) | none => 0
def gF (p : Nat → Nat → Int) (i j q c : Nat) : Int := if q < i ∨ (q = i ∧ c < j) then p q c else 0
set_option maxRecDepth 100000 in
theorem h_Mul (a b : List (List RI)) {L : Nat} (hL : L ≤ 10000000000) (ha : ∀ r ∈ a, LR L r) (hb : ∀ r ∈ b, LR L r) (hd : a.length + widR b < 90000) (hbl : b.length < 1000000) :
    PCall Tryz.prog 16 [.one (eW a), .one (eW b)] (.one (eW (rawM a.length (widR b) (prW a b)))) := by
  obtain ⟨n, hn⟩ : ∃ n, n = widR b := ⟨_, rfl⟩
  obtain ⟨R, hR⟩ : ∃ R, R = a.length := ⟨_, rfl⟩
  obtain ⟨pr, hpr⟩ : ∃ pr, pr = prW a b := ⟨_, rfl⟩
  rw [← hn, ← hR] at hd
  have gr := h_grid R n hd
  refine pcall_of_wpA mixed Tryz.call16 Tryz.func16 rfl Tryz.ntmps16 Tryz.results16 (by simp) (by decide) ?_
  rw [← hn, ← hR, ← hpr]
  simp only [go_sem]
  refine CondR_if (fun hlt => ?_) (fun hge => ?_)
  focus
    have hb0 : 0 < b.length := by omega
    have e2 : elemD cMw b 0 = cMw b[0] := elemD_lt hb0
    have hw : b[0].length = n := by rw [hn]; unfold widR; cases b with | nil => simp at hb0 | cons _ _ => rfl
    have hI2 : ((0 : Int) < (b.length : Int)) = True := eq_true (by omega)
    simp only [go_sem, e2, hI2, hw]
    (repeat (refine And.intro (by omega) ?_))
  rotate_left
  focus
    have hw : n = 0 := by rw [hn]; unfold widR; cases b with | nil => rfl | cons _ _ => simp at hge
    simp only [go_sem]
    rw [show (0 : Int) = ((n : Nat) : Int) by rw [hw]; rfl]
  all_goals (
    rw [← hR]
    refine call_grid (m := 2) (q := 0) (hk := 900001) (g := fun _ _ => 0) (rows := fun q => fnG n (gF pr 0 0 q)) (e := [(3, [.t (eW b)])]) (.inr rfl) gr rfl (by omega) (by decide) (by funext x; rfl) (fun b hb => by simp at hb; omega) (fun i hi => fnG_congr fun c _ => by unfold gF; rw [if_neg (by omega)]) ?_
    simp only [go_sem, Nat.zero_add, Nat.add_zero, ← hR]
    refine loop_inv (fun i : Nat => stL 48 [(0, .one (.t (eL cMw a))), (3, .one (.ptr 3 0)), (5, litI .i64 n), (6, .one (.vec 900001 1 0 R)), (21, .one (.t (eL cMw a))), (22, litI .i64 R), (23, litI .i64 i)]
      (famE 900100 cJ (fun q => fnG n (gF pr i 0 q)) R ++ [(900001, rowsC 900100 2 n R), (3, [.t (eW b)])])) (fun i => i ≤ R) (fun i => R - i) 0 ?_ (Nat.zero_le _) ?_
    · (refine gstep_list rfl ?_ ?_ ?_ ?_ <;> (try simp only [go_sem, tail_one, ← hR]) <;> (try simp only [true_or, or_true, or_false, beq_self_eq_true, and_self, true_and, and_true]))
      all_goals first | rfl | exact .inl (by rw [hw]; rfl) | (intro q hq; rw [if_pos ⟨by omega, hq⟩])
    · intro i hi
      simp only [go_sem]
      refine CondR_if (fun hlt => ?_) (fun hge => ?_)
      · have hlt' : i < R := by omega
        have hla : i < a.length := by omega
        have hel : elemD cMw a i = cMw a[i] := elemD_lt hla
        have hLR := ha _ (List.getElem_mem hla)
        have hAt : ∀ j, pr i j = smI (fun k => atR a[i] k * atW b k j) (min a[i].length b.length) := fun j => by rw [hpr]; unfold prW; rw [List.getElem?_eq_getElem hla]
        generalize a[i] = row at *
        simp only [go_sem, hel, hlt, ← hR]
        (repeat (refine And.intro (by omega) ?_))
        refine loop_inv (fun j : Nat => stL 48 [(0, .one (.t (eL cMw a))), (3, .one (.ptr 3 0)), (5, litI .i64 n), (6, .one (.vec 900001 1 0 R)), (21, .one (.t (eL cMw a))), (22, litI .i64 R), (23, litI .i64 i), (7, litI .i64 i), (8, .one (.ptr 8 0)), (28, litI .i64 n), (29, litI .i64 j)]
          (famE 900100 cJ (fun q => fnG n (gF pr i j q)) R ++ [(900001, rowsC 900100 2 n R), (3, [.t (eW b)]), (8, [.t (eL cI row)])])) (fun j => j ≤ n) (fun j => n - j) 0 ?_ (Nat.zero_le _) ?_
        · (refine gstep_list rfl ?_ ?_ ?_ ?_ <;> (try simp only [go_sem, tail_one]) <;> (try simp only [true_or, or_true, or_false, beq_self_eq_true, and_self, true_and, and_true]))
          all_goals first | rfl | exact .inl (by rw [hw]; rfl) | (intro q hq; rw [if_neg (by omega), if_neg (by omega), if_pos ⟨by omega, hq⟩])
        · intro j hj
          simp only [go_sem]
          refine CondR_if (fun hlj => ?_) (fun hgj => ?_)
          · have hlj' : j < n := by omega
            obtain ⟨mm, hmm⟩ : ∃ mm, mm = min row.length b.length := ⟨_, rfl⟩
            rw [← hmm] at hAt
            have a3 : (rowsC 900100 2 n R).drop i = .vec (900100 + i) 2 0 n :: (rowsC 900100 2 n R).drop (i + 1) := rowsC_at hlt'
            have hrl := rowsC_len (b := 900100) (sz := 2) (len := n) (n := R)
            have cl := fun g => cJ_clen (n := n) (g := g)
            have sd := cJ_sd (n := n) (g := gF pr i j i) hlj' (q := pr i j)
            have rd := fun H h1 h2 h3 => rd_sumA row b j mm hL hb hLR (by omega) (by omega) (by omega) (by omega) (c1 := 8) (c2 := 3) (c3 := 9) (by decide) (by decide) (by decide) (H := H) h1 h2 h3
            rw [← hAt j] at rd
            have hmn : (if (b.length : Int) < (row.length : Int) then (b.length : Int) else (row.length : Int)) = (mm : Int) := by rw [hmm]; split <;> omega
            simp only [go_sem]
            refine regA_by 3 rfl ?_
            simp only [go_sem, a3, hrl, hlt, cl, hlj, sd, hmn]
            (repeat (refine And.intro (by omega) ?_))
            refine call_rd (rd _ (by simp only [go_sem] <;> rfl) (by simp only [go_sem] <;> rfl) (by simp only [go_sem] <;> rfl)) ?_
            simp only [go_sem, a3, hrl, hlt, cl, hlj, sd, hmn, fam9, fam10, fam11, hlt']
            (repeat (refine And.intro (by omega) ?_))
            refine ⟨j + 1, hlj', (by show n - (j + 1) < n - j; omega), ?_⟩
            (refine gstep_list rfl ?_ ?_ ?_ ?_ <;> (try simp only [go_sem, tail_one, fam9, fam10, fam11, sd, wrap_i64 (n := (j : Int) + 1) (by omega) (by omega)]) <;> (try simp only [true_or, or_true, or_false, beq_self_eq_true, and_self, true_and, and_true]))
            all_goals first | rfl | skip
            intro q hq
            by_cases e : q = i
            · rw [if_pos e, e]
              congr 2
              refine fnG_congr fun v hv => ?_
              by_cases ev : v = j
              · rw [if_pos ev, ev]; unfold gF; rw [if_pos (.inr ⟨rfl, Nat.lt_succ_self j⟩)]
              · rw [if_neg ev]
                unfold gF
                by_cases e3 : v < j
                · rw [if_pos (.inr ⟨rfl, e3⟩), if_pos (.inr ⟨rfl, by omega⟩)]
                · rw [if_neg (by omega), if_neg (by omega)]
            · rw [if_neg e, if_pos hq]
              congr 2
              refine fnG_congr fun v hv => ?_
              unfold gF
              by_cases e3 : q < i
              · rw [if_pos (.inl e3), if_pos (.inl e3)]
              · rw [if_neg (by omega), if_neg (by omega)]
          · obtain rfl : j = n := by omega
            simp only [go_sem]
            refine ⟨i + 1, hlt', (by show R - (i + 1) < R - i; omega), ?_⟩
            (refine gstep_list rfl ?_ ?_ ?_ ?_ <;> (try simp only [go_sem, tail_one, wrap_i64 (n := (i : Int) + 1) (by omega) (by omega)]) <;> (try simp only [true_or, or_true, or_false, beq_self_eq_true, and_self, true_and, and_true]))
            all_goals first | rfl | skip
            exact fun q hq => by
              rw [if_pos ⟨by omega, hq⟩]
              congr 2
              refine fnG_congr fun c hc => ?_
              unfold gF
              by_cases e : q < i ∨ (q = i ∧ c < j)
              · rw [if_pos e, if_pos (by omega)]
              · rw [if_neg e, if_neg (by omega)]
      · obtain rfl : i = R := by omega
        simp only [go_sem]
        have e : fnG i (fun q => fnG n (gF pr i 0 q)) = fnG i (fun q => fnG n (pr q)) := fnG_congr fun q hq => fnG_congr fun c _ => if_pos (.inl hq)
        refine fz_mat (b := 900100) (by simp only [go_sem]) fun q hq => ?_
        rw [lookH_fam_at hq, show fnG n (gF pr i 0 q) = fnG n (pr q) from fnG_congr fun c _ => if_pos (.inl hq)])
end Go.Proofs.YtjmbhknhiakkpaaGreat
namespace Go.Proofs.YtjmbhknhiakkpaaGreat
open Go Go.Abs
set_option maxHeartbeats 32000000
/-! ### The rows that can't be -/
theorem cQ_sd {n : Nat} {g : Nat → Rat} {i : Nat} (hi : i < n) {q : Rat} : (cellsL cR (fnG n g)).take (i * 3) ++ C.t (.lit (.bool (decide (q.num < 0)))) :: C.t (eN (dig q.num.natAbs)) :: C.t (eN (dig q.den)) :: (cellsL cR (fnG n g)).drop (i * 3 + 3) = cellsL cR (fnG n (fun v => if v = i then q else g v)) := by
  have := cG_set (f := cR) (sz := 3) cR_len hi (g := g) (y := q)
  rw [← this]; simp [setCs, cR]
theorem cQ_clen {n : Nat} {g : Nat → Rat} : (cellsL cR (fnG n g)).length = n * 3 := cG_len cR_len
def lRs (S : HX) : List (Nat × List C) := [(1000000, outT S)]
theorem lRs_ok {S : HX} : LK (lRs S) where
  key := fun k hk => by unfold lRs at hk; simp at hk; have : PIN = 1000000 := rfl; omega
  refs := by simp [lRs, refsH, refsC, outT]
  all := fun σ h => ⟨h 1000000 _ rfl, trivial⟩
theorem elem_raw {R n j k : Nat} {g : Nat → Nat → Int} (hj : j < R) (hk : k < n) : elemD cMw (rawM R n g) j = cMw (fnG n fun c => encJ (g j c)) ∧ elemD cI (fnG n fun c => encJ (g j c)) k = cJ (g j k) := by
  refine ⟨?_, by rw [elemG hk, cI_enc]⟩
  unfold rawM
  rw [elemG hj]
structure LBrs (S : HX) (pv : Nat → Int) (r R : Nat) (q0 : Rat) (B : Nat) : Prop where
  out : ∀ t, t ≤ r → ∀ j, j < R → lQ (rsF S pv r q0 t j) ≤ B
  sum : ∀ t, t < r → 0 ≤ pv (r - 1 - t) → ∀ d, d ≤ t + 1 → lQ (smQ (fun d => rsF S pv r q0 t (r - t + d) * (S.h (r - t + d) (pv (r - 1 - t)).toNat : Rat)) d) ≤ B
theorem retA_tmp {P : Program} {n : Nat} {σ : St} : retA P [ResultVar.tmp n] σ = σ.s n := rfl
set_option maxRecDepth 100000 in
theorem h_reason (S : HX) (pv : Nat → Int) (r : Nat) (q0 : Rat) {B K : Nat} (hB : B ≤ 1000000000) (hK : K ≤ 1000000000) (hr : r < S.R) (hR : S.R < 90000) (hn : S.n < 90000) (hpv : ∀ i, i < r → pv i < S.n) (hq0 : lQ q0 ≤ B) (hH : ∀ j c, j < S.R → c < S.n → lN (S.h j c) ≤ K) (hL : LBrs S pv r S.R q0 B) :
    MCall Tryz.prog 39 [.one (.ptr PIN 0), .one (.t (eL cI1 (fnG S.R pv))), litI .i64 r, .agg ((cR q0).map .t)] (lookH (lRs S)) (.one (.t (eL cR (fnG S.R (rsF S pv r q0 r))))) (lookH (lRs S)) := by
  have hl := lRs_ok (S := S)
  obtain ⟨R, hRe⟩ : ∃ R, R = S.R := ⟨_, rfl⟩
  obtain ⟨n, hne⟩ : ∃ n, n = S.n := ⟨_, rfl⟩
  obtain ⟨H, hHe⟩ : ∃ H, H = S.h := ⟨_, rfl⟩
  refine mcall_of_wpXG mixed Tryz.call39 Tryz.func39 rfl Tryz.ntmps39 Tryz.results39 (by simp) (by decide) ?_ ?_ ?_ ?_ ?_
  · exact low_of hl.key
  · exact fun b => Iff.rfl
  · exact cl_of_refs hl.refs
  · trivial
  · have z : PCall Tryz.prog 61 [zAg] (eQ 0) := by
      have := (q_Of1 false [] (by simp)).fz (tvs' := [zAg]) (.cons (fz_agg2 .t .weak) .nil)
      have e : ((iv false [] : Int) : Rat) = 0 := by
        have : iv false [] = 0 := by unfold iv; simp [val]
        rw [this]; rfl
      rwa [e] at this
    have hh := q_Held_e q0 (by omega)
    obtain ⟨l, hle⟩ : ∃ l, l = lRs S := ⟨_, rfl⟩
    have lo0 : ∀ t, t < 1000000 → lookH l t = none := fun t h => by rw [hle]; have := hl.lo (e := []) h; rw [List.append_nil] at this; exact this
    have lo := fun t e (h : t < 1000000) => (hle ▸ hl : LK l).lo (e := e) h
    have rf := fun D e => (hle ▸ hl : LK l).refs' (D := D) (e := e)
    have ct := fun t D (h : t < 1000000) => (hle ▸ hl : LK l).ct (D := D) h
    have kp : ∀ e, lookH (l ++ e) 1000000 = some (outT S) := fun e => by rw [hle]; rfl
    have ctp : ∀ D, (l.map Prod.fst ++ D).contains 1000000 = true := fun D => by rw [hle]; simp [lRs]
    have hlall : ∀ {σ : St}, (∀ b, PIN ≤ b → σ.H b = lookH l b) → AllH σ l := fun {σ} h => (hle ▸ hl : LK l).all' h
    rw [← hle, ← hRe]
    rw [← hRe] at hL hR hr
    simp only [go_sem, PIN, lo, lo0]
    (repeat (refine And.intro (by omega) ?_))
    refine loop_inv (fun i : Nat => stL 111 [(0, .one (.ptr 1000000 0)), (1, .one (.t (eL cI1 (fnG R pv)))), (2, litI .i64 r), (7, .one (.ptr 7 0)), (9, .one (.vec 20 3 0 R)), (22, litI .i64 R), (23, litI .i64 i)]
      (l ++ [(7, (cR q0).map .t), (20, cellsL cZ (((fnG R fun _ => (0 : Rat)).take i).map some ++ List.replicate (R - i) none))])) (fun i => i ≤ R) (fun i => R - i) 0 ?_ (Nat.zero_le _) ?_
    · rw [List.take_zero, Nat.sub_zero, List.map_nil, List.nil_append]
      refine GStep.trans (gstep_weakH 20 (cs := repl R z3) (by simp only [go_sem] <;> rfl) (weakL_z3 _)) ?_
      (refine gstep_list rfl ?_ ?_ ?_ ?_ <;> (try simp only [go_sem, tail_one, lo, lo0, rf, ct, ctp, AllH_app, cellsL_refs]) <;> (try simp only [true_or, or_true, or_false, beq_self_eq_true, and_self, true_and, and_true]))
      all_goals first | rfl | (refine hlall ?_; repeat (first | exact fun _ _ => rfl | exact (fun b hb => LK.hi hb fun k hk => by simp at hk; have : PIN = 1000000 := rfl; omega) | refine upd_hi (by decide) ?_)) | skip
    · intro i hi
      simp only [go_sem]
      refine CondR_if (fun hlt => ?_) (fun hge => ?_)
      · have hlt' : i < R := by omega
        have hlen : (fnG R fun _ => (0 : Rat)).length = R := fnG_len
        have hys : (((fnG R fun _ => (0 : Rat)).take i).map some ++ List.replicate (R - i) none).length = R := by simp [fnG_len]; omega
        have hnx := fill_next (l := fnG R fun _ => (0 : Rat)) (n := R) (i := i) (by rw [hlen]; exact hlt') (by omega)
        rw [fnG_get] at hnx
        generalize ((fnG R fun _ => (0 : Rat)).take i).map some ++ List.replicate (R - i) none = ys at *
        have hsd := cZ_sd (ys := ys) (i := i) (by omega) (q := 0)
        rw [hnx] at hsd
        simp only [go_sem, hlt]
        ((repeat (refine regA_by 0 rfl ?_; simp only [go_sem, hlt])); refine call_pure (z) rfl ?_; simp only [go_sem, hlt]; (repeat (refine regA_by 0 rfl ?_; simp only [go_sem, hlt])))
        simp only [go_sem, hlt, lo, cZ_clen]
        (repeat (refine And.intro (by omega) ?_))
        refine ⟨i + 1, hlt', (by show R - (i + 1) < R - i; omega), ?_⟩
        (refine gstep_list rfl ?_ ?_ ?_ ?_ <;> (try simp only [go_sem, tail_one, lo, lo0, rf, ct, ctp, AllH_app, cellsL_refs, hsd, wrap_i64 (n := (i : Int) + 1) (by omega) (by omega)]) <;> (try simp only [true_or, or_true, or_false, beq_self_eq_true, and_self, true_and, and_true]))
        all_goals first | rfl | (refine hlall ?_; repeat (first | exact fun _ _ => rfl | exact (fun b hb => LK.hi hb fun k hk => by simp at hk; have : PIN = 1000000 := rfl; omega) | refine upd_hi (by decide) ?_)) | skip
      · obtain rfl : i = R := by omega
        rw [List.take_of_length_le (by rw [fnG_len]; exact Nat.le_refl _), Nat.sub_self, List.replicate_zero, List.append_nil, cZ_map]
        simp only [go_sem, lo]
        have hrI : ((r : Int) < (i : Int)) = True := eq_true (by omega)
        have cl := fun g => cQ_clen (n := i) (g := g)
        have sd := cQ_sd (n := i) (g := fun _ => 0) hr (q := q0)
        have hr0 : IntKind.i64.wrap ((r : Int) - 1) = (r : Int) - 1 - (0 : Nat) := by rw [wrap_i64 (by omega) (by omega)]; omega
        ((repeat (refine regA_by 0 rfl ?_; simp only [go_sem, lo, hrI, cl, sd])); refine call_pure (hh) rfl ?_; simp only [go_sem, lo, hrI, cl, sd]; (repeat (refine regA_by 0 rfl ?_; simp only [go_sem, lo, hrI, cl, sd])))
        (repeat (refine And.intro (by omega) ?_))
        simp only [go_sem, lo, hrI, cl, sd, hr0]
        refine loop_inv (fun t : Nat => stL 111 [(0, .one (.ptr 1000000 0)), (1, .one (.t (eL cI1 (fnG i pv)))), (2, litI .i64 r), (9, .one (.vec 20 3 0 i)), (11, litI .i64 ((r : Int) - 1 - t))]
          (l ++ [(20, cellsL cR (fnG i (rsF S pv r q0 t)))])) (fun t => t ≤ r) (fun t => r - t) 0 ?_ (Nat.zero_le _) ?_
        · (refine gstep_list rfl ?_ ?_ ?_ ?_ <;> (try simp only [go_sem, tail_one, lo, lo0, rf, ct, ctp, AllH_app, cellsL_refs, sd]) <;> (try simp only [true_or, or_true, or_false, beq_self_eq_true, and_self, true_and, and_true]))
          refine ⟨hlall ?_, ?_⟩
          · repeat (first | exact fun _ _ => rfl | exact (fun b hb => LK.hi hb fun k hk => by simp at hk; have : PIN = 1000000 := rfl; omega) | refine upd_hi (by decide) ?_)
          · rfl
        · intro t ht
          simp only [go_sem]
          refine CondR_if (fun hge0 => ?_) (fun hlt0 => ?_)
          · have htr : t < r := by omega
            obtain ⟨q, hq⟩ : ∃ q, q = r - 1 - t := ⟨_, rfl⟩
            have hqi : (r : Int) - 1 - (t : Int) = (q : Int) := by omega
            have hqR : q < i := by omega
            have ep : elemD cI1 (fnG i pv) q = cI1 (pv q) := elemG hqR
            have hqI : ((q : Int) < (i : Int)) = True := eq_true (by omega)
            have hdn : IntKind.i64.wrap ((q : Int) - 1) = (r : Int) - 1 - ((t + 1 : Nat) : Int) := by rw [wrap_i64 (by omega) (by omega)]; omega
            have hnx : rsF S pv r q0 (t + 1) = if pv q < 0 then rsF S pv r q0 t else fun j => if j = q then -(smQ (fun d => rsF S pv r q0 t (r - t + d) * (S.h (r - t + d) (pv q).toNat : Rat)) (t + 1) * (S.h q (pv q).toNat : Rat)⁻¹) else rsF S pv r q0 t j := by rw [hq]; rfl
            rw [hqi]
            simp only [go_sem, ep, hqI]
            (repeat (refine And.intro (by omega) ?_))
            refine CondR_if (fun hpn => ?_) (fun hpp => ?_)
            · simp only [go_sem]
              rw [if_pos hpn] at hnx
              refine ⟨t + 1, htr, (by show r - (t + 1) < r - t; omega), ?_⟩
              (refine gstep_list rfl ?_ ?_ ?_ ?_ <;> (try simp only [go_sem, tail_one, lo, lo0, rf, ct, ctp, AllH_app, cellsL_refs, hnx, hdn]) <;> (try simp only [true_or, or_true, or_false, beq_self_eq_true, and_self, true_and, and_true]))
              all_goals first | rfl | (refine hlall ?_; repeat (first | exact fun _ _ => rfl | exact (fun b hb => LK.hi hb fun k hk => by simp at hk; have : PIN = 1000000 := rfl; omega) | refine upd_hi (by decide) ?_)) | skip
            · simp only [go_sem]
              rw [if_neg hpp] at hnx
              obtain ⟨kn, hkn⟩ : ∃ kn : Nat, (kn : Int) = pv q := ⟨(pv q).toNat, by omega⟩
              rw [← hkn] at hnx ⊢
              have hrt : r - t = q + 1 := by omega
              have hkt : ((kn : Int)).toNat = kn := Int.toNat_natCast kn
              have hsum := hL.sum t htr (by rw [← hq]; omega)
              rw [← hq, ← hkn, hkt, hrt] at hsum
              rw [hkt, hrt] at hnx
              have hkS : kn < S.n := by have := hpv q (by omega); omega
              have hkI : ((kn : Int) < (S.n : Int)) = True := eq_true (by omega)
              obtain ⟨ou, hou⟩ : ∃ ou, ou = rsF S pv r q0 t := ⟨_, rfl⟩
              have hob : ∀ j, j < i → lQ (ou j) ≤ B := fun j hj => by rw [hou]; exact hL.out t (by omega) j hj
              rw [← hou] at hsum hnx ⊢
              obtain ⟨f, hf⟩ : ∃ f : Nat → Rat, f = fun d => ou (q + 1 + d) * (S.h (q + 1 + d) kn : Rat) := ⟨_, rfl⟩
              rw [← hf] at hsum hnx
              have hw1 : IntKind.i64.wrap ((q : Int) + 1) = ((q + 1 + 0 : Nat) : Int) := by rw [wrap_i64 (by omega) (by omega)]; omega
              ((repeat (refine regA_by 0 rfl ?_; simp only [go_sem, lo])); refine call_pure (z) rfl ?_; simp only [go_sem, lo]; (repeat (refine regA_by 0 rfl ?_; simp only [go_sem, lo])))
              simp only [go_sem, lo, hw1]
              refine loop_inv (fun d : Nat => stL 111 [(0, .one (.ptr 1000000 0)), (1, .one (.t (eL cI1 (fnG i pv)))), (2, litI .i64 r), (9, .one (.vec 20 3 0 i)), (11, litI .i64 q), (12, litI .i64 kn), (13, .one (.ptr 13 0)), (14, litI .i64 (q + 1 + d : Nat))]
                (l ++ [(20, cellsL cR (fnG i ou)), (13, (cR (smQ f d)).map .t)])) (fun d => d ≤ t + 1) (fun d => t + 1 - d) 0 ?_ (Nat.zero_le _) ?_
              · have hs0 : smQ f 0 = 0 := rfl
                rw [hs0]
                (refine gstep_list rfl ?_ ?_ ?_ ?_ <;> (try simp only [go_sem, tail_one, lo, lo0, rf, ct, ctp, AllH_app, cellsL_refs]) <;> (try simp only [true_or, or_true, or_false, beq_self_eq_true, and_self, true_and, and_true]))
                all_goals first | rfl | (refine hlall ?_; repeat (first | exact fun _ _ => rfl | exact (fun b hb => LK.hi hb fun k hk => by simp at hk; have : PIN = 1000000 := rfl; omega) | refine upd_hi (by decide) ?_)) | skip
              · intro d hd
                simp only [go_sem]
                refine CondR_if (fun hle => ?_) (fun hgt => ?_)
                · obtain ⟨j, hj⟩ : ∃ j, j = q + 1 + d := ⟨_, rfl⟩
                  have hji : j < i := by omega
                  have hjI : ((j : Int) < (i : Int)) = True := eq_true (by omega)
                  have hjS : ((j : Int) < (S.R : Int)) = True := eq_true (by omega)
                  obtain ⟨e1, e2⟩ := elem_raw (R := S.R) (n := S.n) (g := S.h) (j := j) (k := kn) (by omega) hkS
                  have hb1 := hob j hji
                  have hb2 := hH j kn (by omega) hkS
                  have hb3 := lQ_int (S.h j kn)
                  have hb4 := lQ_mul (ou j) (S.h j kn : Rat)
                  have hb5 := hsum d hd
                  have o1 := q_Of1_e (S.h j kn) (by omega)
                  have o2 := q_Times (ou j) (S.h j kn : Rat) (by omega) (by omega)
                  have o3 := q_Plus (smQ f d) (ou j * (S.h j kn : Rat)) (by omega) (by omega)
                  have hfs : smQ f d + ou j * (S.h j kn : Rat) = smQ f (d + 1) := by rw [hj]; show _ = smQ f d + f d; rw [hf]
                  rw [hfs] at o3
                  have ca := cG_at (f := cR) (sz := 3) (g := ou) (n := i) cR_len hji
                  have cl := fun g => cQ_clen (n := i) (g := g)
                  have hj1 : ((q + 1 + (d + 1) : Nat) : Int) = (j : Int) + 1 := by omega
                  have hd1 : d + 1 ≤ t + 1 := by omega
                  rw [← hj]
                  simp only [go_sem]
                  refine regA_by 0 rfl ?_
                  simp only [go_sem, lo, kp, outT, e1, e2, hjI, hjS, hkI, ca, cl, rawM_len, cI_len]
                  (repeat (refine And.intro (by omega) ?_))
                  ((repeat (refine regA_by 0 rfl ?_; simp only [go_sem, lo, kp, outT, e1, e2, hjI, hjS, hkI, ca, cl, rawM_len, cI_len])); refine call_pure (o1) rfl ?_; simp only [go_sem, lo, kp, outT, e1, e2, hjI, hjS, hkI, ca, cl, rawM_len, cI_len]; (repeat (refine regA_by 0 rfl ?_; simp only [go_sem, lo, kp, outT, e1, e2, hjI, hjS, hkI, ca, cl, rawM_len, cI_len])); refine call_pure (o2) rfl ?_; simp only [go_sem, lo, kp, outT, e1, e2, hjI, hjS, hkI, ca, cl, rawM_len, cI_len]; (repeat (refine regA_by 0 rfl ?_; simp only [go_sem, lo, kp, outT, e1, e2, hjI, hjS, hkI, ca, cl, rawM_len, cI_len])); refine call_pure (o3) rfl ?_; simp only [go_sem, lo, kp, outT, e1, e2, hjI, hjS, hkI, ca, cl, rawM_len, cI_len]; (repeat (refine regA_by 0 rfl ?_; simp only [go_sem, lo, kp, outT, e1, e2, hjI, hjS, hkI, ca, cl, rawM_len, cI_len])))
                  refine ⟨d + 1, hd1, (by show t + 1 - (d + 1) < t + 1 - d; omega), ?_⟩
                  (refine gstep_list rfl ?_ ?_ ?_ ?_ <;> (try simp only [go_sem, tail_one, lo, lo0, rf, ct, ctp, AllH_app, cellsL_refs, hj1, wrap_i64 (n := (j : Int) + 1) (by omega) (by omega)]) <;> (try simp only [true_or, or_true, or_false, beq_self_eq_true, and_self, true_and, and_true]))
                  all_goals first | rfl | (refine hlall ?_; repeat (first | exact fun _ _ => rfl | exact (fun b hb => LK.hi hb fun k hk => by simp at hk; have : PIN = 1000000 := rfl; omega) | refine upd_hi (by decide) ?_)) | skip
                · obtain rfl : d = t + 1 := by omega
                  obtain ⟨e1, e2⟩ := elem_raw (R := S.R) (n := S.n) (g := S.h) (j := q) (k := kn) (by omega) hkS
                  have hqS : ((q : Int) < (S.R : Int)) = True := eq_true (by omega)
                  have hb2 := hH q kn (by omega) hkS
                  have hb3 := lQ_int (S.h q kn)
                  have hb5 := hsum (t + 1) (Nat.le_refl _)
                  have hb6 := lQ_inv (S.h q kn : Rat)
                  have hb7 := lQ_mul (smQ f (t + 1)) (S.h q kn : Rat)⁻¹
                  have o1 := q_Of1_e (S.h q kn) (by omega)
                  have o2 := q_Over (S.h q kn : Rat) (by omega)
                  have o3 := q_Times (smQ f (t + 1)) (S.h q kn : Rat)⁻¹ (by omega) (by omega)
                  have o4 := q_Minus (smQ f (t + 1) * (S.h q kn : Rat)⁻¹) (by omega)
                  have cl := fun g => cQ_clen (n := i) (g := g)
                  have sd := cQ_sd (n := i) (g := ou) hqR (q := -(smQ f (t + 1) * (S.h q kn : Rat)⁻¹))
                  simp only [go_sem]
                  refine regA_by 0 rfl ?_
                  simp only [go_sem, lo, kp, outT, e1, e2, hqI, hqS, hkI, cl, rawM_len, cI_len, sd]
                  (repeat (refine And.intro (by omega) ?_))
                  ((repeat (refine regA_by 0 rfl ?_; simp only [go_sem, lo, kp, outT, e1, e2, hqI, hqS, hkI, cl, rawM_len, cI_len, sd])); refine call_pure (o1) rfl ?_; simp only [go_sem, lo, kp, outT, e1, e2, hqI, hqS, hkI, cl, rawM_len, cI_len, sd]; (repeat (refine regA_by 0 rfl ?_; simp only [go_sem, lo, kp, outT, e1, e2, hqI, hqS, hkI, cl, rawM_len, cI_len, sd])); refine call_pure (o2) rfl ?_; simp only [go_sem, lo, kp, outT, e1, e2, hqI, hqS, hkI, cl, rawM_len, cI_len, sd]; (repeat (refine regA_by 0 rfl ?_; simp only [go_sem, lo, kp, outT, e1, e2, hqI, hqS, hkI, cl, rawM_len, cI_len, sd])); refine call_pure (o3) rfl ?_; simp only [go_sem, lo, kp, outT, e1, e2, hqI, hqS, hkI, cl, rawM_len, cI_len, sd]; (repeat (refine regA_by 0 rfl ?_; simp only [go_sem, lo, kp, outT, e1, e2, hqI, hqS, hkI, cl, rawM_len, cI_len, sd])); refine call_pure (o4) rfl ?_; simp only [go_sem, lo, kp, outT, e1, e2, hqI, hqS, hkI, cl, rawM_len, cI_len, sd]; (repeat (refine regA_by 0 rfl ?_; simp only [go_sem, lo, kp, outT, e1, e2, hqI, hqS, hkI, cl, rawM_len, cI_len, sd])))
                  (repeat (refine And.intro (by omega) ?_))
                  refine ⟨t + 1, htr, (by show r - (t + 1) < r - t; omega), ?_⟩
                  (refine gstep_list rfl ?_ ?_ ?_ ?_ <;> (try simp only [go_sem, tail_one, lo, lo0, rf, ct, ctp, AllH_app, cellsL_refs, hnx, hdn, sd]) <;> (try simp only [true_or, or_true, or_false, beq_self_eq_true, and_self, true_and, and_true]))
                  all_goals first | rfl | (refine hlall ?_; repeat (first | exact fun _ _ => rfl | exact (fun b hb => LK.hi hb fun k hk => by simp at hk; have : PIN = 1000000 := rfl; omega) | refine upd_hi (by decide) ?_)) | skip
          · obtain rfl : t = r := by omega
            obtain ⟨ou, hou⟩ : ∃ ou, ou = rsF S pv t q0 t := ⟨_, rfl⟩
            rw [← hou]
            simp only [go_sem, lo]
            (repeat (refine And.intro (by omega) ?_))
            refine loop_inv (fun m : Nat => stL 111 [(15, .one (.vec 96 3 0 i)), (97, .one (.vec 20 3 0 i)), (98, litI .i64 i), (99, litI .i64 m)]
              (l ++ [(20, cellsL cR (fnG i ou)), (96, cellsL cZ (((fnG i ou).take m).map some ++ List.replicate (i - m) none))])) (fun m => m ≤ i) (fun m => i - m) 0 ?_ (Nat.zero_le _) ?_
            · rw [List.take_zero, Nat.sub_zero, List.map_nil, List.nil_append]
              refine GStep.trans (gstep_weakH 96 (cs := repl i z3) (by simp only [go_sem] <;> rfl) (weakL_z3 _)) ?_
              (refine gstep_list rfl ?_ ?_ ?_ ?_ <;> (try simp only [go_sem, tail_one, lo, lo0, rf, ct, ctp, AllH_app, cellsL_refs]) <;> (try simp only [true_or, or_true, or_false, beq_self_eq_true, and_self, true_and, and_true]))
              all_goals first | rfl | (refine hlall ?_; repeat (first | exact fun _ _ => rfl | exact (fun b hb => LK.hi hb fun k hk => by simp at hk; have : PIN = 1000000 := rfl; omega) | refine upd_hi (by decide) ?_)) | skip
            · intro m hm
              simp only [go_sem]
              refine CondR_if (fun hlm => ?_) (fun hgm => ?_)
              · have hlm' : m < i := by omega
                have hys : (((fnG i ou).take m).map some ++ List.replicate (i - m) none).length = i := by simp [fnG_len]; omega
                have hnx := fill_next (l := fnG i ou) (n := i) (i := m) (by rw [fnG_len]; exact hlm') (by rw [fnG_len]; exact Nat.le_refl _)
                rw [fnG_get] at hnx
                generalize ((fnG i ou).take m).map some ++ List.replicate (i - m) none = ys at *
                have hsd := cZ_sd (ys := ys) (i := m) (by omega) (q := ou m)
                rw [hnx] at hsd
                have ca := cG_at (f := cR) (sz := 3) (g := ou) (n := i) cR_len hlm'
                have cl := fun g => cQ_clen (n := i) (g := g)
                have o1 := q_Rat_e (ou m)
                simp only [go_sem, lo, ca, cl, hlm]
                (repeat (refine And.intro (by omega) ?_))
                ((repeat (refine regA_by 0 rfl ?_; simp only [go_sem, lo, ca, cl, hlm])); refine call_pure (o1) rfl ?_; simp only [go_sem, lo, ca, cl, hlm]; (repeat (refine regA_by 0 rfl ?_; simp only [go_sem, lo, ca, cl, hlm])))
                simp only [go_sem, lo, hlm, cZ_clen]
                (repeat (refine And.intro (by omega) ?_))
                refine ⟨m + 1, hlm', (by show i - (m + 1) < i - m; omega), ?_⟩
                (refine gstep_list rfl ?_ ?_ ?_ ?_ <;> (try simp only [go_sem, tail_one, lo, lo0, rf, ct, ctp, AllH_app, cellsL_refs, hsd, wrap_i64 (n := (m : Int) + 1) (by omega) (by omega)]) <;> (try simp only [true_or, or_true, or_false, beq_self_eq_true, and_self, true_and, and_true]))
                all_goals first | rfl | (refine hlall ?_; repeat (first | exact fun _ _ => rfl | exact (fun b hb => LK.hi hb fun k hk => by simp at hk; have : PIN = 1000000 := rfl; omega) | refine upd_hi (by decide) ?_)) | skip
              · obtain rfl : m = i := by omega
                rw [List.take_of_length_le (by rw [fnG_len]; exact Nat.le_refl _), Nat.sub_self, List.replicate_zero, List.append_nil, cZ_map]
                simp only [go_sem, lo]
                refine ⟨_, gstep_frz (b := 96) (sz := 3) (len := m) (cs := cellsL cR (fnG m ou)) (x := eL cR (fnG m ou)) ?_ ?_, .inr rfl, (fun x hx => by obtain rfl := List.mem_singleton.1 hx; trivial), ?_, fun b hb => ?_⟩
                · simp only [go_sem, lo]
                · have := treeOf_L (f := cR) (xs := fnG m ou) cR_len
                  rw [fnG_len] at this; exact this
                · rw [retA_tmp]
                  simp only [go_sem]
                · have hb' : 1000000 ≤ b := hb
                  have e1 : lookH (l ++ [(20, cellsL cR (fnG m ou)), (96, cellsL cR (fnG m ou))]) b = lookH l b := LK.hi hb fun k hk => by simp at hk; have : PIN = 1000000 := rfl; omega
                  have e2 : (lookH l b).map (fun cs => cs.map (fC 96 3 m (eL cR (fnG m ou)))) = lookH l b := by
                    rw [hle]
                    show (if b = 1000000 then some (outT S) else none).map _ = if b = 1000000 then some (outT S) else none
                    by_cases e : b = 1000000
                    · rw [if_pos e]; rfl
                    · rw [if_neg e]; rfl
                  simp only [go_sem]
                  rw [if_neg (by omega), e1]
                  exact e2
end Go.Proofs.YtjmbhknhiakkpaaGreat
namespace Go.Proofs.YtjmbhknhiakkpaaGreat
open Go Go.Abs
set_option maxHeartbeats 64000000
def lB (row : List RI) (m : Nat) (y : Nat → Int) : List (Nat × List C) := [(1000000, [.t (eL cI row)]), (1000001, [.vec 1000002 2 0 m]), (1000002, cellsL cJ (fnG m y))]
theorem lB_ok {row : List RI} {m : Nat} {y : Nat → Int} : LK (lB row m y) where
  key := fun k hk => by unfold lB at hk; simp at hk; have : PIN = 1000000 := rfl; omega
  refs := by simp [lB, refsH, refsC, cellsL_refs]
  all := fun σ h => ⟨h 1000000 _ rfl, h 1000001 _ rfl, h 1000002 _ rfl, trivial⟩
theorem lB_in {row : List RI} {m x : Nat} {y : Nat → Int} (h : lookH (lB row m y) x ≠ none) : x = 1000000 ∨ x = 1000001 ∨ x = 1000002 := by
  have h : (if x = 1000000 then some _ else if x = 1000001 then some _ else if x = 1000002 then some _ else none) ≠ none := h
  by_cases e1 : x = 1000000
  · exact .inl e1
  · rw [if_neg e1] at h
    by_cases e2 : x = 1000001
    · exact .inr (.inl e2)
    · rw [if_neg e2] at h
      by_cases e3 : x = 1000002
      · exact .inr (.inr e3)
      · rw [if_neg e3] at h; exact (h rfl).elim
set_option maxRecDepth 100000 in
theorem h_All1 (row : List RI) (m : Nat) (y : Nat → Int) (k : Nat) (hk : k < row.length) (hk2 : k < m) (hrl : row.length < 1000000000) (hm : m < 1000000000) :
    MCall Tryz.prog 36 [litI .i64 k, .one (.ptr PIN 0), .one (.ptr (PIN + 1) 0)] (lookH (lB row m y)) (.tup [.agg ((cI row[k]).map .t), .agg ((cI (encJ (y k))).map .t)]) (lookH (lB row m y)) := by
  have hl := lB_ok (row := row) (m := m) (y := y)
  refine mcall_of_wpX mixed Tryz.call36 Tryz.func36 rfl Tryz.ntmps36 Tryz.results36 (by simp) (by decide) ?_ ?_ ?_ ?_ ?_
  · exact low_of hl.key
  · exact fun b => Iff.rfl
  · exact cl_of_refs hl.refs
  · exact ⟨fun c hc => by obtain ⟨t, _, rfl⟩ := List.mem_map.1 hc; trivial, fun c hc => by obtain ⟨t, _, rfl⟩ := List.mem_map.1 hc; trivial, trivial⟩
  · have e1 : elemD cI row k = cI row[k] := elemD_lt hk
    have ca := cG_at (f := cJ) (sz := 2) (g := y) (n := m) cJ_len hk2
    have cl := fun g => cJ_clen (n := m) (g := g)
    have hI1 : ((k : Int) < (row.length : Int)) = True := eq_true (by omega)
    have hI2 : ((k : Int) < (m : Int)) = True := eq_true (by omega)
    generalize row[k] = p at *
    simp only [go_sem, PIN, lB]
    refine regA_any 10 rfl ?_
    refine AnyS.take' 1 rfl (by decide +kernel) (by decide +kernel) (by decide +kernel) (by simp only [go_sem]) (pureAt_move rfl) ?_
    refine AnyS.take' 5 rfl (by decide +kernel) (by decide +kernel) (by decide +kernel) (by simp only [go_sem]) (pureAt_move rfl) ?_
    repeat' (first | (refine AnyS.done (by decide +kernel) ?_) | (refine AnyS.take' 2 rfl (by decide +kernel) (by decide +kernel) (by decide +kernel) (by simp only [go_sem]) (pureAt_indexAddr (t := 23) (n := row.length) rfl (by simp only [go_sem]) (by simp only [go_sem]) (by simp only [go_sem]) (by simp only [go_sem, cI_len] <;> (try exact fun _ _ => rfl) <;> simp [cI_len]) (by simp only [go_sem]) (by simp only [go_sem, hI1, hI2] <;> omega)) ?_) | (refine AnyS.take' 6 rfl (by decide +kernel) (by decide +kernel) (by decide +kernel) (by simp only [go_sem]) (pureAt_indexAddr (t := 23) (n := m) rfl (by simp only [go_sem]) (by simp only [go_sem]) (by simp only [go_sem]) (by simp only [go_sem, cI_len] <;> (try exact fun _ _ => rfl) <;> simp [cI_len]) (by simp only [go_sem]) (by simp only [go_sem, hI1, hI2] <;> omega)) ?_) | (refine AnyS.two' 0 4 (by decide +kernel) rfl rfl (by simp only [go_sem]) (by simp only [go_sem]) ?_ ?_) | (refine AnyS.two' 0 7 (by decide +kernel) rfl rfl (by simp only [go_sem]) (by simp only [go_sem]) ?_ ?_) | (refine AnyS.two' 3 4 (by decide +kernel) rfl rfl (by simp only [go_sem]) (by simp only [go_sem]) ?_ ?_) | (refine AnyS.two' 3 7 (by decide +kernel) rfl rfl (by simp only [go_sem]) (by simp only [go_sem]) ?_ ?_) | (refine AnyS.two' 4 8 (by decide +kernel) rfl rfl (by simp only [go_sem]) (by simp only [go_sem]) ?_ ?_) | (refine AnyS.two' 7 8 (by decide +kernel) rfl rfl (by simp only [go_sem]) (by simp only [go_sem]) ?_ ?_) | (refine AnyS.one' 9 (by decide +kernel) rfl (by simp only [go_sem]) ?_) | (refine AnyS.one' 0 (by decide +kernel) rfl (by simp only [go_sem]) ?_) | (refine AnyS.one' 3 (by decide +kernel) rfl (by simp only [go_sem]) ?_) | (refine AnyS.one' 8 (by decide +kernel) rfl (by simp only [go_sem]) ?_) | (refine AnyS.one' 4 (by decide +kernel) rfl (by simp only [go_sem]) ?_) | (refine AnyS.one' 7 (by decide +kernel) rfl (by simp only [go_sem]) ?_) | (simp only [go_sem, PIN, lB, e1, ca, cl, hI1, hI2, cI, cI_len]; (repeat (refine And.intro (by omega) ?_))))
    all_goals (
      refine xret2 (.inr rfl) ?_ ?_ ?_ ?_ ?_
      · simp only [go_sem]
      · simp only [go_sem]
      · simp only [go_sem]
      · simp only [go_sem]
        rfl
      · repeat (first | exact fun _ _ => rfl | refine upd_hi (by decide) ?_))
set_option maxRecDepth 100000 in
theorem h_All2 (row : List RI) (m : Nat) (y : Nat → Int) (k : Nat) (hk : k < row.length) (hk2 : k < m) (hrl : row.length < 1000000000) (hm : m < 1000000000) :
    MCall Tryz.prog 44 [litI .i64 k, .one (.ptr PIN 0), .one (.ptr (PIN + 1) 0)] (lookH (lB row m y)) (.tup [.agg ((cI row[k]).map .t), .agg ((cI (encJ (y k))).map .t)]) (lookH (lB row m y)) := by
  have hl := lB_ok (row := row) (m := m) (y := y)
  refine mcall_of_wpX mixed Tryz.call44 Tryz.func44 rfl Tryz.ntmps44 Tryz.results44 (by simp) (by decide) ?_ ?_ ?_ ?_ ?_
  · exact low_of hl.key
  · exact fun b => Iff.rfl
  · exact cl_of_refs hl.refs
  · exact ⟨fun c hc => by obtain ⟨t, _, rfl⟩ := List.mem_map.1 hc; trivial, fun c hc => by obtain ⟨t, _, rfl⟩ := List.mem_map.1 hc; trivial, trivial⟩
  · have e1 : elemD cI row k = cI row[k] := elemD_lt hk
    have ca := cG_at (f := cJ) (sz := 2) (g := y) (n := m) cJ_len hk2
    have cl := fun g => cJ_clen (n := m) (g := g)
    have hI1 : ((k : Int) < (row.length : Int)) = True := eq_true (by omega)
    have hI2 : ((k : Int) < (m : Int)) = True := eq_true (by omega)
    generalize row[k] = p at *
    simp only [go_sem, PIN, lB]
    refine regA_any 10 rfl ?_
    refine AnyS.take' 1 rfl (by decide +kernel) (by decide +kernel) (by decide +kernel) (by simp only [go_sem]) (pureAt_move rfl) ?_
    refine AnyS.take' 5 rfl (by decide +kernel) (by decide +kernel) (by decide +kernel) (by simp only [go_sem]) (pureAt_move rfl) ?_
    repeat' (first | (refine AnyS.done (by decide +kernel) ?_) | (refine AnyS.take' 2 rfl (by decide +kernel) (by decide +kernel) (by decide +kernel) (by simp only [go_sem]) (pureAt_indexAddr (t := 23) (n := row.length) rfl (by simp only [go_sem]) (by simp only [go_sem]) (by simp only [go_sem]) (by simp only [go_sem, cI_len] <;> (try exact fun _ _ => rfl) <;> simp [cI_len]) (by simp only [go_sem]) (by simp only [go_sem, hI1, hI2] <;> omega)) ?_) | (refine AnyS.take' 6 rfl (by decide +kernel) (by decide +kernel) (by decide +kernel) (by simp only [go_sem]) (pureAt_indexAddr (t := 23) (n := m) rfl (by simp only [go_sem]) (by simp only [go_sem]) (by simp only [go_sem]) (by simp only [go_sem, cI_len] <;> (try exact fun _ _ => rfl) <;> simp [cI_len]) (by simp only [go_sem]) (by simp only [go_sem, hI1, hI2] <;> omega)) ?_) | (refine AnyS.two' 0 4 (by decide +kernel) rfl rfl (by simp only [go_sem]) (by simp only [go_sem]) ?_ ?_) | (refine AnyS.two' 0 7 (by decide +kernel) rfl rfl (by simp only [go_sem]) (by simp only [go_sem]) ?_ ?_) | (refine AnyS.two' 3 4 (by decide +kernel) rfl rfl (by simp only [go_sem]) (by simp only [go_sem]) ?_ ?_) | (refine AnyS.two' 3 7 (by decide +kernel) rfl rfl (by simp only [go_sem]) (by simp only [go_sem]) ?_ ?_) | (refine AnyS.two' 4 8 (by decide +kernel) rfl rfl (by simp only [go_sem]) (by simp only [go_sem]) ?_ ?_) | (refine AnyS.two' 7 8 (by decide +kernel) rfl rfl (by simp only [go_sem]) (by simp only [go_sem]) ?_ ?_) | (refine AnyS.one' 9 (by decide +kernel) rfl (by simp only [go_sem]) ?_) | (refine AnyS.one' 0 (by decide +kernel) rfl (by simp only [go_sem]) ?_) | (refine AnyS.one' 3 (by decide +kernel) rfl (by simp only [go_sem]) ?_) | (refine AnyS.one' 8 (by decide +kernel) rfl (by simp only [go_sem]) ?_) | (refine AnyS.one' 4 (by decide +kernel) rfl (by simp only [go_sem]) ?_) | (refine AnyS.one' 7 (by decide +kernel) rfl (by simp only [go_sem]) ?_) | (simp only [go_sem, PIN, lB, e1, ca, cl, hI1, hI2, cI, cI_len]; (repeat (refine And.intro (by omega) ?_))))
    all_goals (
      refine xret2 (.inr rfl) ?_ ?_ ?_ ?_ ?_
      · simp only [go_sem]
      · simp only [go_sem]
      · simp only [go_sem]
      · simp only [go_sem]
        rfl
      · repeat (first | exact fun _ _ => rfl | refine upd_hi (by decide) ?_))
theorem caps_lB {row : List RI} {m : Nat} {y : Nat → Int} : ∀ p ∈ [(PIN, 0), (PIN + 1, 0)], p.1 ∈ (lB row m y).map (·.1) := fun p hp => by
  unfold lB
  rcases List.mem_cons.1 hp with rfl | hp
  · simp [PIN]
  · obtain rfl := List.mem_singleton.1 hp; simp [PIN]
theorem args_lB {row : List RI} {m : Nat} {y : Nat → Int} {n : Int} {F : FuncId} : ∀ x ∈ [litI .i64 n, AV.one (.fn F [(PIN, 0), (PIN + 1, 0)])], inA (lookH (lB row m y)) x :=
  List.forall_mem_cons.2 ⟨trivial, List.forall_mem_cons.2 ⟨(fun p hp => by
    unfold lB
    rcases List.mem_cons.1 hp with rfl | hp
    · show lookH _ 1000000 ≠ none; simp [lookH]
    · obtain rfl := List.mem_singleton.1 hp
      show lookH _ 1000001 ≠ none; simp [lookH]), fun x hx => by cases hx⟩⟩
theorem rd_sumB {F : FuncId} (row : List RI) (m : Nat) (y : Nat → Int) (q : Nat) {L : Nat} (hL : L ≤ 10000000000) (hr : LR L row) (hy : ∀ j, j < m → lN (y j) ≤ L) (hq : q ≤ row.length) (hq2 : q ≤ m) (hm : m < 1000000)
    (hF : ∀ k (hk : k < row.length), k < m → MCall Tryz.prog F [litI .i64 k, .one (.ptr PIN 0), .one (.ptr (PIN + 1) 0)] (lookH (lB row m y)) (.tup [.agg ((cI row[k]).map .t), .agg ((cI (encJ (y k))).map .t)]) (lookH (lB row m y)))
    {c1 c2 c3 : Nat} (h12 : c1 ≠ c2) (h13 : c1 ≠ c3) (h23 : c2 ≠ c3) {H : Heap} (h1 : H c1 = some [.t (eL cI row)]) (h2 : H c2 = some [.vec c3 2 0 m]) (h3 : H c3 = some (cellsL cJ (fnG m y))) :
    RdC Tryz.prog 33 [litI .i64 q, .one (.fn F [(c1, 0), (c2, 0)])] H (.agg ((cJ (smI (fun k => atR row k * y k) q)).map .t)) := by
  have hl := lB_ok (row := row) (m := m) (y := y)
  have hs := h_sum (lB row m y) hl F [(PIN, 0), (PIN + 1, 0)] caps_lB q (fun k => (row[k]?).getD (false, [])) (fun k => encJ (y k)) (A := L) hL (by omega) (fun k hk => by
        rw [List.getElem?_eq_getElem (by omega)]; exact hr.2 _ (List.getElem_mem _)) (fun k hk => hy k (by omega)) (fun k hk => ?_)
  · have e : smI (fun i => vR ((row[i]?).getD (false, [])) * vR (encJ (y i))) q = smI (fun k => atR row k * y k) q := smI_congr fun k hk => by
      rw [vR_enc, List.getElem?_eq_getElem (by omega), atR_lt (by omega)]; rfl
    rw [e] at hs
    refine rd_ren (fun k => if k = 0 then c1 else if k = 1 then c2 else c3) hs (low_of hl.key) (fun b b' hb hb' e => ?_) (cl_of_refs hl.refs) args_lB (fun b cs hb => ?_)
    · have k0 : thI (fun k => if k = 0 then c1 else if k = 1 then c2 else c3) 1000000 = c1 := rfl
      have k1 : thI (fun k => if k = 0 then c1 else if k = 1 then c2 else c3) 1000001 = c2 := rfl
      have k2 : thI (fun k => if k = 0 then c1 else if k = 1 then c2 else c3) 1000002 = c3 := rfl
      rcases lB_in hb with rfl | rfl | rfl <;> rcases lB_in hb' with rfl | rfl | rfl
      · rfl
      · rw [k0, k1] at e; exact (h12 e).elim
      · rw [k0, k2] at e; exact (h13 e).elim
      · rw [k0, k1] at e; exact (h12 e.symm).elim
      · rfl
      · rw [k1, k2] at e; exact (h23 e).elim
      · rw [k0, k2] at e; exact (h13 e.symm).elim
      · rw [k1, k2] at e; exact (h23 e.symm).elim
      · rfl
    · rcases lB_in (x := b) (by rw [hb]; simp) with rfl | rfl | rfl
      · have hb : some [C.t (eL cI row)] = some cs := hb
        cases hb; exact h1
      · have hb : some [C.vec 1000002 2 0 m] = some cs := hb
        cases hb; exact h2
      · have hb : some (cellsL cJ (fnG m y)) = some cs := hb
        cases hb
        rw [cellsL_th]; exact h3
  · have h := hF k (by omega) (by omega)
    rw [List.getElem?_eq_getElem (by omega)]
    refine rd_ren (fun k => PIN + k) h (low_of hl.key) (fun b b' hb hb' e => ?_) (cl_of_refs hl.refs) (List.forall_mem_cons.2 ⟨trivial, List.forall_mem_cons.2 ⟨by unfold lB; show lookH _ 1000000 ≠ none; simp [lookH], List.forall_mem_cons.2 ⟨by unfold lB; show lookH _ 1000001 ≠ none; simp [lookH], fun x hx => by cases hx⟩⟩⟩) (fun b cs hb => ?_)
    · rcases lB_in hb with rfl | rfl | rfl <;> rcases lB_in hb' with rfl | rfl | rfl <;> first | rfl | (exact absurd e (by decide))
    · rcases lB_in (x := b) (by rw [hb]; simp) with rfl | rfl | rfl
      · have hb : some [C.t (eL cI row)] = some cs := hb
        cases hb; rfl
      · have hb : some [C.vec 1000002 2 0 m] = some cs := hb
        cases hb; rfl
      · have hb : some (cellsL cJ (fnG m y)) = some cs := hb
        cases hb
        rw [cellsL_th]; rfl
end Go.Proofs.YtjmbhknhiakkpaaGreat
namespace Go.Proofs.YtjmbhknhiakkpaaGreat
open Go Go.Abs
set_option maxHeartbeats 64000000
/-- What is told of equations, where the first row that can't be is T (R: none is). -/
noncomputable def resT (S : HX) (pv : Nat → Int) (kk : Nat → Nat) (bf : Nat → Int) (n R T : Nat) : TV :=
  if T < R then .tup [.one (.seq (some true) []), .one (.seq (some true) []), tI .i64 0, .one (eL cR (fnG R (rsF S pv T (oftS S pv kk bf T) T))), tB false]
  else .tup [.one (eL cJ (fnG n (xSol S pv kk bf n R))), .one (eW (rawM n n S.u)), tI .i64 (kk R), .one (.seq (some true) []), tB true]
theorem fz_tup5 {H : Heap} {a b c d e : AV} {x y z u v : TV} (h1 : FzA H a x) (h2 : FzA H b y) (h3 : FzA H c z) (h4 : FzA H d u) (h5 : FzA H e v) : FzA H (.tup [a, b, c, d, e]) (.tup [x, y, z, u, v]) := .tup rfl fun j hj hj' => by
  match j, hj with
  | 0, _ => exact h1
  | 1, _ => exact h2
  | 2, _ => exact h3
  | 3, _ => exact h4
  | 4, _ => exact h5
theorem retQ_ret5 {P : Program} {r1 r2 r3 r4 r5 : ResultVar} {t : TV} {σ : St} : retQ P [r1, r2, r3, r4, r5] t .ret σ = ((resOk P σ r1 ∧ resOk P σ r2 ∧ resOk P σ r3 ∧ resOk P σ r4 ∧ resOk P σ r5) ∧ FzA σ.H (.tup [resA P σ r1, resA P σ r2, resA P σ r3, resA P σ r4, resA P σ r5]) t) := by simp [retQ, retA]
/-- Bounds for solving. -/
structure LBsol (S : HX) (pv : Nat → Int) (kk : Nat → Nat) (bf : Nat → Int) (n R T K B : Nat) : Prop where
  h : ∀ r c, r < R → c < n → lN (S.h r c) ≤ K
  u : ∀ r c, r < n → c < n → lN (S.u r c) ≤ K
  y : ∀ r, r ≤ R → ∀ j, lN (ySol S pv kk bf r j) ≤ B
  left : ∀ r, r < R → lN (leftS S pv kk bf r) ≤ B
  oft : T < R → lQ (oftS S pv kk bf T) ≤ B
  rs : T < R → LBrs S pv T R (oftS S pv kk bf T) B
theorem smI_row {row : List RI} {g y : Nat → Int} {n k : Nat} (hk : k ≤ n) (hr : row = fnG n fun c => encJ (g c)) : smI (fun k => atR row k * y k) k = smI (fun i => g i * y i) k := smI_congr fun i hi => by
  rw [hr, atR_lt (by rw [fnG_len]; omega), fnG_get, vR_enc]
theorem LR_row {n K : Nat} {g : Nat → Int} (hn : n < 1000000) (h : ∀ c, c < n → lN (g c) ≤ K) : LR K (fnG n fun c => encJ (g c)) := by
  refine ⟨by rw [fnG_len]; omega, fun p hp => ?_⟩
  obtain ⟨i, hi, rfl⟩ := fnG_mem hp
  exact h i hi
theorem pvS_cases {A : Nat → Nat → Int} {n R r : Nat} : (pvS A n R r = -1 ∧ (madeS A n R (r + 1)).2 = (madeS A n R r).2) ∨ (pvS A n R r = ((madeS A n R r).2 : Int) ∧ (madeS A n R (r + 1)).2 = (madeS A n R r).2 + 1) := by
  have e : (madeS A n R (r + 1)).2 = if (rowH (madeS A n R r).1 r (madeS A n R r).2).2 then (madeS A n R r).2 + 1 else (madeS A n R r).2 := rfl
  rw [e]
  unfold pvS
  cases (rowH (madeS A n R r).1 r (madeS A n R r).2).2 with
  | true => exact .inr ⟨rfl, rfl⟩
  | false => exact .inl ⟨rfl, rfl⟩
theorem lN_smI {f : Nat → Int} {C : Nat} : ∀ {m : Nat}, (∀ i, i < m → lN (f i) ≤ C) → lN (smI f m) ≤ C + m
  | 0, _ => by show lN 0 ≤ _; unfold lN; simp [dig_zero]
  | m + 1, h => by
    have ih := lN_smI (f := f) (C := C) (m := m) fun i hi => h i (by omega)
    have h1 := lN_add (smI f m) (f m)
    have h2 := h m (by omega)
    show lN (smI f m + f m) ≤ _
    omega
theorem rd_reason (S : HX) (pv : Nat → Int) (r : Nat) (q0 : Rat) {B K : Nat} (hB : B ≤ 1000000000) (hK : K ≤ 1000000000) (hr : r < S.R) (hR : S.R < 90000) (hn : S.n < 90000) (hpv : ∀ i, i < r → pv i < S.n) (hq0 : lQ q0 ≤ B) (hH : ∀ j c, j < S.R → c < S.n → lN (S.h j c) ≤ K) (hL : LBrs S pv r S.R q0 B) {c : Nat} {H : Heap} (h1 : H c = some (outT S)) :
    RdC Tryz.prog 39 [.one (.ptr c 0), .one (.t (eL cI1 (fnG S.R pv))), litI .i64 r, .agg ((cR q0).map .t)] H (.one (.t (eL cR (fnG S.R (rsF S pv r q0 r))))) := by
  have h := h_reason S pv r q0 hB hK hr hR hn hpv hq0 hH hL
  have hl := lRs_ok (S := S)
  have hin : ∀ {x}, lookH (lRs S) x ≠ none → x = 1000000 := fun {x} hx => by
    have hx : (if x = 1000000 then some (outT S) else none) ≠ none := hx
    by_cases e : x = 1000000
    · exact e
    · rw [if_neg e] at hx; exact (hx rfl).elim
  refine rd_ren (fun k => c + k) h (low_of hl.key) (fun b b' hb hb' _ => by rw [hin hb, hin hb']) (cl_of_refs hl.refs) (List.forall_mem_cons.2 ⟨by show lookH (lRs S) 1000000 ≠ none; simp [lRs, lookH], List.forall_mem_cons.2 ⟨trivial, List.forall_mem_cons.2 ⟨trivial, List.forall_mem_cons.2 ⟨(fun c hc => by obtain ⟨t, _, rfl⟩ := List.mem_map.1 hc; trivial), fun x hx => by cases hx⟩⟩⟩⟩) (fun b cs hb => ?_)
  obtain rfl := hin (x := b) (by rw [hb]; simp)
  have hb : some (outT S) = some cs := hb
  cases hb
  exact h1
set_option maxRecDepth 100000 in
theorem h_All (a : List (List RI)) (b : List RI) (n : Nat) {K L B : Nat} (hK : K ≤ 500000000) (hL : L ≤ 500000000) (hB : B ≤ 500000000) (hn : n ≤ 40) (hR : a.length < 40000) (ha : ∀ row ∈ a, LR L row) (hbL : LR L b) (hb : LBmade K (atW a) n a.length)
    {S : HX} (hS : S = (madeS (atW a) n a.length a.length).1) {pv : Nat → Int} (hpv : pv = pvS (atW a) n a.length) {kk : Nat → Nat} (hkk : kk = fun r => (madeS (atW a) n a.length r).2) (Tb : Nat) (hT : Tb ≤ a.length)
    (hgood : ∀ r, r < Tb → ¬ badS S pv kk (atR b) r) (hbad : Tb < a.length → badS S pv kk (atR b) Tb) (hLs : LBsol S pv kk (atR b) n a.length Tb K B) :
    PCall Tryz.prog 18 [.one (eW a), .one (eL cI b), tI .i64 n] (resT S pv kk (atR b) n a.length Tb) := by
  obtain ⟨R, hRe⟩ : ∃ R, R = a.length := ⟨_, rfl⟩
  have hcs : ∀ r, (pv r = -1 ∧ kk (r + 1) = kk r) ∨ (pv r = (kk r : Int) ∧ kk (r + 1) = kk r + 1) := fun r => by rw [hpv, hkk]; exact pvS_cases
  have hkle : ∀ r, kk r ≤ n ∧ kk r ≤ r := fun r => by rw [hkk]; exact madeS_le r
  have hk0 : kk 0 = 0 := by rw [hkk]; rfl
  have hSd : S.n = n ∧ S.R = a.length := by rw [hS]; exact madeS_dim _
  refine pcall_of_wpA mixed Tryz.call18 Tryz.func18 rfl Tryz.ntmps18 Tryz.results18 (by simp) (by decide) ?_
  simp only [go_sem]
  refine call_made a n (.inr rfl) (by omega) (by omega) hn hR ha hb rfl (by simp only [go_sem] <;> rfl) ?_
  rw [← hS, ← hpv]
  rw [← hRe] at hLs hT hbad hSd hR ⊢
  obtain ⟨nS, RS⟩ := hSd
  obtain ⟨H, hH⟩ : ∃ H, H = S.h := ⟨_, rfl⟩
  obtain ⟨Y, hY⟩ : ∃ Y : Nat → Nat → Int, Y = ySol S pv kk (atR b) := ⟨_, rfl⟩
  have hY0 : Y 0 = fun _ => 0 := by rw [hY]; rfl
  have hYb : ∀ r, r ≤ R → ∀ j, lN (Y r j) ≤ B := fun r hr j => by rw [hY]; exact hLs.y r hr j
  have hYs : ∀ r, Y (r + 1) = if pv r < 0 then Y r else fun j => if j = kk r then Int.fdiv (leftS S pv kk (atR b) r) (S.h r (kk r)) else Y r j := fun r => by rw [hY]; rfl
  have hlf : ∀ r, leftS S pv kk (atR b) r = atR b r - smI (fun i => S.h r i * Y r i) (kk r) := fun r => by rw [hY]; rfl
  simp only [go_sem, nS, RS, rawM_len]
  (repeat (refine And.intro (by omega) ?_))
  refine loop_inv (fun r : Nat => stL 127 [(1, .one (.t (eL cI b))), (11, .one (.ptr 900000 0)), (12, .one (.t (eL cI1 (fnG R pv)))), (13, .one (.ptr 13 0)), (14, litI .i64 (kk r)), (39, .one (.t (eW (rawM R n S.h)))), (40, litI .i64 R), (41, litI .i64 r)]
    [(900000, [.t (eW (rawM R n S.h)), .t (eW (rawM n n S.u)), .t (eW (rawM n n S.v))]), (13, [.vec 35 2 0 n]), (35, cellsL cJ (fnG n (Y r)))]) (fun r => r ≤ Tb) (fun r => Tb - r) 0 ?_ (Nat.zero_le _) ?_
  · refine GStep.trans (gstep_weakH 35 (cs := repl n [C.t (T.lit (Value.bool false)), C.t (T.seq (some true) [])]) (by simp only [go_sem, nS] <;> rfl) (weakL_zJ n)) ?_
    rw [hk0, hY0]
    (refine gstep_list rfl ?_ ?_ ?_ ?_ <;> (try simp only [go_sem, tail_one, nS, RS, cellsL_refs]) <;> (try simp only [true_or, or_true, or_false, beq_self_eq_true, and_self, true_and, and_true]))
    all_goals rfl
  · intro r hr
    simp only [go_sem]
    refine CondR_if (fun hlt => ?_) (fun hge => ?_)
    · have hrR : r < R := by omega
      obtain ⟨row, hrow⟩ : ∃ row : List RI, row = fnG n fun c => encJ (S.h r c) := ⟨_, rfl⟩
      have er : elemD cMw (rawM R n S.h) r = cMw row := by rw [hrow]; unfold rawM; exact elemG hrR
      have hrl : row.length = n := by rw [hrow, fnG_len]
      have hLR : LR K row := by rw [hrow]; exact LR_row (by omega) fun c hc => hLs.h r c hrR hc
      have hkn := hkle r
      obtain ⟨dn, hdn⟩ : ∃ dn, dn = smI (fun i => S.h r i * Y r i) (kk r) := ⟨_, rfl⟩
      have hlfr := hlf r
      rw [← hdn] at hlfr
      have rd : ∀ H : Heap, H 16 = some [.t (eL cI row)] → H 13 = some [.vec 35 2 0 n] → H 35 = some (cellsL cJ (fnG n (Y r))) → RdC Tryz.prog 33 [litI .i64 (kk r), .one (.fn 36 [(16, 0), (13, 0)])] H (.agg ((cJ dn).map .t)) := fun H h1 h2 h3 => by
        have := rd_sumB row n (Y r) (kk r) (L := max K B) (by omega) ⟨hLR.1, fun p hp => by have := hLR.2 p hp; omega⟩ (fun j _ => by have := hYb r (by omega) j; omega) (by omega) (by omega) (by omega) (fun k hk hk2 => h_All1 row n (Y r) k hk hk2 (by omega) (by omega)) (c1 := 16) (c2 := 13) (c3 := 35) (by decide) (by decide) (by decide) h1 h2 h3
        rw [smI_row (g := S.h r) (by omega) hrow, ← hdn] at this; exact this
      have hdb : lN dn ≤ 2 * max K B + 1000 := by
        have := lN_smI (f := fun i => S.h r i * Y r i) (C := 2 * max K B) (m := kk r) fun i hi => by
          have h1 := hLs.h r i hrR (by omega)
          have h2 := hYb r (by omega) i
          have h3 := lN_mul (S.h r i) (Y r i)
          omega
        rw [← hdn] at this; omega
      have hrI : ((r : Int) < (R : Int)) = True := eq_true (by omega)
      have ep : elemD cI1 (fnG R pv) r = cI1 (pv r) := elemG hrR
      have o1 := h_place b r (L := L) (by omega) hbL (by omega)
      have hbb := hbL.at r
      have o2 := w_Sub_e (atR b r) dn (by omega) (by omega)
      rw [← hlfr] at o2
      have hlb := hLs.left r hrR
      have o3 := w_Sign_e (leftS S pv kk (atR b) r) (by omega)
      generalize hle : leftS S pv kk (atR b) r = le at *
      simp only [go_sem, er, hrI, rawM_len]
      (repeat (refine And.intro (by omega) ?_))
      refine call_rd2 (.inr rfl) (rd _ (by simp only [go_sem] <;> rfl) (by simp only [go_sem] <;> rfl) (by simp only [go_sem] <;> rfl)) ?_
      simp only [go_sem]
      ((repeat (refine regA_by 0 rfl ?_; simp only [go_sem])); refine call_pure (o1) rfl ?_; simp only [go_sem]; (repeat (refine regA_by 0 rfl ?_; simp only [go_sem])); refine call_pure (o2) rfl ?_; simp only [go_sem]; (repeat (refine regA_by 0 rfl ?_; simp only [go_sem])))
      simp only [go_sem, ep, hrI]
      (repeat (refine And.intro (by omega) ?_))
      have hbd : badS S pv kk (atR b) r ↔ (if pv r < 0 then le ≠ 0 else Int.fmod le (S.h r (kk r)) ≠ 0) := by unfold badS; rw [hle]
      have hTbad : badS S pv kk (atR b) r → r = Tb := fun h => Classical.byContradiction fun hne => hgood r (by omega) h
      have hTgood : ¬ badS S pv kk (atR b) r → r < Tb := fun h => Classical.byContradiction fun hne => by
        obtain rfl : r = Tb := by omega
        exact h (hbad hrR)
      have hpvn : ∀ i, pv i < (n : Int) := fun i => by
        have h1 := hkle i
        have h2 := hkle (i + 1)
        rcases hcs i with ⟨h, h3⟩ | ⟨h, h3⟩ <;> omega
      have hRn : ∀ (q0 : Rat), lQ q0 ≤ B → LBrs S pv r R q0 B → ∀ H : Heap, H 900000 = some (outT S) → RdC Tryz.prog 39 [.one (.ptr 900000 0), .one (.t (eL cI1 (fnG R pv))), litI .i64 r, .agg ((cR q0).map .t)] H (.one (.t (eL cR (fnG R (rsF S pv r q0 r))))) := fun q0 h1 h2 H h3 => by
        have := rd_reason S pv r q0 (B := B) (K := K) (by omega) (by omega) (by omega) (by omega) (by omega) (fun i _ => by rw [nS]; exact hpvn i) h1 (fun j c hj hc => hLs.h j c (by omega) (by omega)) (by rw [RS]; exact h2) h3
        rw [RS] at this; exact this
      have hoT : outT S = [.t (eW (rawM R n S.h)), .t (eW (rawM n n S.u)), .t (eW (rawM n n S.v))] := by unfold outT; rw [nS, RS]
      have hof : oftS S pv kk (atR b) r = if pv r < 0 then Rat.divInt 1 (le + le) else Rat.divInt 1 (S.h r (kk r)) := by unfold oftS; rw [hle]
      have om : PCall Tryz.prog 41 [tI .i64 1] (eI 1) := w_Of_e 1 (by decide) (by decide)
      have l1 : lN 1 ≤ 1 := lN_small (by omega)
      have hYs' := hYs r
      rw [hle] at hYs'
      refine CondR_if (fun hp => ?_) (fun hp => ?_)
      · rw [if_pos hp] at hbd hof hYs'
        have hk1 : kk (r + 1) = kk r := by rcases hcs r with ⟨_, h⟩ | ⟨h, _⟩ <;> omega
        simp only [go_sem]
        ((repeat (refine regA_by 0 rfl ?_; simp only [go_sem])); refine call_pure (o3) rfl ?_; simp only [go_sem]; (repeat (refine regA_by 0 rfl ?_; simp only [go_sem])))
        refine CondR_if (fun hs => ?_) (fun hs => ?_)
        · have hle0 : le ≠ 0 := fun h => hs (Int.sign_eq_zero_iff_zero.2 h)
          have hrT := hTbad (hbd.2 hle0)
          have hl2 := lN_add le le
          have o4 := w_Add_e le le (by omega) (by omega)
          have o5 := q_Of_e 1 (le + le) (by omega) (by omega)
          rw [← hof] at o5
          have hres : resT S pv kk (atR b) n R Tb = .tup [.one (.seq (some true) []), .one (.seq (some true) []), tI .i64 0, .one (eL cR (fnG R (rsF S pv r (oftS S pv kk (atR b) r) r))), tB false] := by
            unfold resT; rw [if_pos (by omega), ← hrT]
          have hr2 := hRn (oftS S pv kk (atR b) r) (by rw [hrT]; exact hLs.oft (by omega)) (by rw [hrT]; exact hLs.rs (by omega))
          rw [hres]
          generalize oftS S pv kk (atR b) r = q0 at *
          simp only [go_sem]
          refine regA_by 3 rfl ?_
          simp only [go_sem]
          refine call_pure om rfl ?_
          simp only [go_sem]
          refine call_pure o4 rfl ?_
          simp only [go_sem]
          refine call_pure o5 rfl ?_
          simp only [go_sem]
          refine call_rd (hr2 _ (by simp only [go_sem, nS, RS])) ?_
          simp only [go_sem, retQ_ret5]
          exact fz_tup5 (.one .t) (.one .t) (.one .t) (.one .t) (.one .t)
        · have hle0 : le = 0 := Int.sign_eq_zero_iff_zero.1 (Classical.not_not.1 hs)
          have hrT := hTgood (fun h => hbd.1 h hle0)
          simp only [go_sem]
          refine ⟨r + 1, hrT, (by show Tb - (r + 1) < Tb - r; omega), ?_⟩
          (refine gstep_list rfl ?_ ?_ ?_ ?_ <;> (try simp only [go_sem, tail_one, nS, RS, cellsL_refs, hk1, hYs', wrap_i64 (n := (r : Int) + 1) (by omega) (by omega)]) <;> (try simp only [true_or, or_true, or_false, beq_self_eq_true, and_self, true_and, and_true]))
          all_goals rfl
      · rw [if_neg hp] at hbd hof hYs'
        have hk1 : kk (r + 1) = kk r + 1 := by rcases hcs r with ⟨h, _⟩ | ⟨_, h⟩ <;> omega
        have hkn2 : kk r < n := by have := hkle (r + 1); omega
        have ek : elemD cI row (kk r) = cJ (S.h r (kk r)) := by rw [hrow, elemG hkn2, cI_enc]
        have hkI : ((kk r : Int) < (n : Int)) = True := eq_true (by omega)
        have hhb := hLs.h r (kk r) hrR hkn2
        have o4 := w_Floor_e le (S.h r (kk r)) (by omega) (by omega)
        simp only [go_sem]
        refine regA_by 0 rfl ?_
        simp only [go_sem, ek, hkI, hrl, cI_len]
        (repeat (refine And.intro (by omega) ?_))
        ((repeat (refine regA_by 0 rfl ?_; simp only [go_sem, ek, hkI, hrl, cI_len])); refine call_pure (o4) rfl ?_; simp only [go_sem, ek, hkI, hrl, cI_len]; (repeat (refine regA_by 0 rfl ?_; simp only [go_sem, ek, hkI, hrl, cI_len])))
        have hfl := lN_fdiv le (S.h r (kk r))
        have hfm : lN (le.fmod (S.h r (kk r))) ≤ max (lN le) (lN (S.h r (kk r))) := lN_fmod le (S.h r (kk r))
        have o6 := w_Sign_e (le.fmod (S.h r (kk r))) (by omega)
        refine call_pure o6 rfl ?_
        simp only [go_sem]
        refine CondR_if (fun hs => ?_) (fun hs => ?_)
        · have hle0 : le.fmod (S.h r (kk r)) ≠ 0 := fun h => hs (Int.sign_eq_zero_iff_zero.2 h)
          have hrT := hTbad (hbd.2 hle0)
          have o5 := q_Of_e 1 (S.h r (kk r)) (by omega) (by omega)
          rw [← hof] at o5
          have hres : resT S pv kk (atR b) n R Tb = .tup [.one (.seq (some true) []), .one (.seq (some true) []), tI .i64 0, .one (eL cR (fnG R (rsF S pv r (oftS S pv kk (atR b) r) r))), tB false] := by
            unfold resT; rw [if_pos (by omega), ← hrT]
          have hr2 := hRn (oftS S pv kk (atR b) r) (by rw [hrT]; exact hLs.oft (by omega)) (by rw [hrT]; exact hLs.rs (by omega))
          rw [hres]
          generalize oftS S pv kk (atR b) r = q0 at *
          simp only [go_sem]
          refine regA_by 3 rfl ?_
          simp only [go_sem, ek, hkI, hrl, cI_len]
          (repeat (refine And.intro (by omega) ?_))
          refine call_pure om rfl ?_
          simp only [go_sem, ek, hkI, hrl, cI_len]
          (repeat (refine And.intro (by omega) ?_))
          refine call_pure o5 rfl ?_
          simp only [go_sem]
          refine call_rd (hr2 _ (by simp only [go_sem, nS, RS])) ?_
          simp only [go_sem, retQ_ret5]
          exact fz_tup5 (.one .t) (.one .t) (.one .t) (.one .t) (.one .t)
        · have hle0 : le.fmod (S.h r (kk r)) = 0 := Int.sign_eq_zero_iff_zero.1 (Classical.not_not.1 hs)
          have hrT := hTgood (fun h => hbd.1 h hle0)
          have cl := fun g => cJ_clen (n := n) (g := g)
          have sd := cJ_sd (n := n) (g := Y r) hkn2 (q := le.fdiv (S.h r (kk r)))
          rw [← hYs'] at sd
          have hw : IntKind.i64.wrap ((kk r : Int) + 1) = ((kk r + 1 : Nat) : Int) := by rw [wrap_i64 (by omega) (by omega)]; omega
          simp only [go_sem, hkI, cl, sd, hw]
          (repeat (refine And.intro (by omega) ?_))
          refine ⟨r + 1, hrT, (by show Tb - (r + 1) < Tb - r; omega), ?_⟩
          (refine gstep_list rfl ?_ ?_ ?_ ?_ <;> (try simp only [go_sem, tail_one, nS, RS, cellsL_refs, hk1, sd, wrap_i64 (n := (r : Int) + 1) (by omega) (by omega)]) <;> (try simp only [true_or, or_true, or_false, beq_self_eq_true, and_self, true_and, and_true]))
          all_goals rfl
    · obtain rfl : r = Tb := by omega
      obtain rfl : r = R := by omega
      have hres : resT S pv kk (atR b) n r r = .tup [.one (eL cJ (fnG n (xSol S pv kk (atR b) n r))), .one (eW (rawM n n S.u)), tI .i64 (kk r), .one (.seq (some true) []), tB true] := by
        unfold resT; rw [if_neg (Nat.lt_irrefl _)]
      rw [hres]
      obtain ⟨X, hX⟩ : ∃ X, X = xSol S pv kk (atR b) n r := ⟨_, rfl⟩
      have hXs : ∀ i, X i = smI (fun j => S.u i j * Y r j) n := fun i => by rw [hX, hY]; rfl
      rw [← hX]
      simp only [go_sem]
      (repeat (refine And.intro (by omega) ?_))
      refine loop_inv (fun i : Nat => stL 127 [(11, .one (.ptr 900000 0)), (13, .one (.ptr 13 0)), (14, litI .i64 (kk r)), (21, .one (.vec 102 2 0 n)), (106, .one (.t (eW (rawM n n S.u)))), (107, litI .i64 n), (108, litI .i64 i)]
        [(900000, [.t (eW (rawM r n S.h)), .t (eW (rawM n n S.u)), .t (eW (rawM n n S.v))]), (13, [.vec 35 2 0 n]), (35, cellsL cJ (fnG n (Y r))), (102, cellsL cJ (fnG n fun j => if j < i then X j else 0))]) (fun i => i ≤ n) (fun i => n - i) 0 ?_ (Nat.zero_le _) ?_
      · refine GStep.trans (gstep_weakH 102 (cs := repl n [C.t (T.lit (Value.bool false)), C.t (T.seq (some true) [])]) (by simp only [go_sem] <;> rfl) (weakL_zJ n)) ?_
        have e0 : (fun j => if j < 0 then X j else (0 : Int)) = fun _ => 0 := by funext j; rw [if_neg (Nat.not_lt_zero _)]
        rw [e0]
        (refine gstep_list rfl ?_ ?_ ?_ ?_ <;> (try simp only [go_sem, tail_one, nS, RS, cellsL_refs, rawM_len]) <;> (try simp only [true_or, or_true, or_false, beq_self_eq_true, and_self, true_and, and_true]))
        all_goals rfl
      · intro i hi
        simp only [go_sem]
        refine CondR_if (fun hli => ?_) (fun hgi => ?_)
        · have hli' : i < n := by omega
          obtain ⟨row, hrow⟩ : ∃ row : List RI, row = fnG n fun c => encJ (S.u i c) := ⟨_, rfl⟩
          have er : elemD cMw (rawM n n S.u) i = cMw row := by rw [hrow]; unfold rawM; exact elemG hli'
          have hrl : row.length = n := by rw [hrow, fnG_len]
          have hLR : LR K row := by rw [hrow]; exact LR_row (by omega) fun c hc => hLs.u i c hli' hc
          have rd : ∀ H : Heap, H 23 = some [.t (eL cI row)] → H 13 = some [.vec 35 2 0 n] → H 35 = some (cellsL cJ (fnG n (Y r))) → RdC Tryz.prog 33 [litI .i64 n, .one (.fn 44 [(23, 0), (13, 0)])] H (.agg ((cJ (X i)).map .t)) := fun H h1 h2 h3 => by
            have := rd_sumB row n (Y r) n (L := max K B) (by omega) ⟨hLR.1, fun p hp => by have := hLR.2 p hp; omega⟩ (fun j _ => by have := hYb r (Nat.le_refl _) j; omega) (by omega) (by omega) (by omega) (fun k hk hk2 => h_All2 row n (Y r) k hk hk2 (by omega) (by omega)) (c1 := 23) (c2 := 13) (c3 := 35) (by decide) (by decide) (by decide) h1 h2 h3
            rw [smI_row (g := S.u i) (by omega) hrow, ← hXs] at this; exact this
          have cl := fun g => cJ_clen (n := n) (g := g)
          have sd := cJ_sd (n := n) (g := fun j => if j < i then X j else 0) hli' (q := X i)
          have sde : fnG n (fun v => if v = i then X i else if v < i then X v else 0) = fnG n (fun v => if v < i + 1 then X v else 0) := fnG_congr fun v hv => by
            by_cases e1 : v = i
            · rw [if_pos e1, if_pos (by omega), e1]
            · rw [if_neg e1]
              by_cases e2 : v < i
              · rw [if_pos e2, if_pos (by omega)]
              · rw [if_neg e2, if_neg (by omega)]
          rw [sde] at sd
          simp only [go_sem, er, hli, rawM_len]
          (repeat (refine And.intro (by omega) ?_))
          refine call_rd2 (.inr rfl) (rd _ (by simp only [go_sem] <;> rfl) (by simp only [go_sem] <;> rfl) (by simp only [go_sem] <;> rfl)) ?_
          simp only [go_sem, hli, cl, sd]
          (repeat (refine And.intro (by omega) ?_))
          refine ⟨i + 1, hli', (by show n - (i + 1) < n - i; omega), ?_⟩
          (refine gstep_list rfl ?_ ?_ ?_ ?_ <;> (try simp only [go_sem, tail_one, nS, RS, cellsL_refs, sd, wrap_i64 (n := (i : Int) + 1) (by omega) (by omega)]) <;> (try simp only [true_or, or_true, or_false, beq_self_eq_true, and_self, true_and, and_true]))
          all_goals rfl
        · obtain rfl : i = n := by omega
          simp only [go_sem]
          refine regA_by 0 rfl ?_
          simp only [go_sem, retQ_ret5]
          have e1 : fnG i (fun j => if j < i then X j else 0) = fnG i X := fnG_congr fun v hv => if_pos hv
          rw [e1]
          exact fz_tup5 (fz_vecA cJ_len (by simp only [go_sem] <;> rfl) (by rw [fnG_len])) (.one .t) (.one .t) (.one .t) (.one .t)
end Go.Proofs.YtjmbhknhiakkpaaGreat
