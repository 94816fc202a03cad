/- Sums of small numbers. -/
import Derived.Test.YtikihijfhgbffaaGreatDoorRQ1
import Derived.Test.YtikihijfhgbffaaGreatDoorR5
set_option linter.unusedVariables false
set_option linter.unusedSimpArgs false
set_option linter.unusedVariables false
set_option linter.unusedSimpArgs false
set_option maxRecDepth 100000
namespace Go.RR
theorem wrapU_neg {n : Int} (h0 : n < 0) (h1 : -18446744073709551616 ≤ n) : IntKind.u64.wrap n = n + 18446744073709551616 := by
 unfold IntKind.wrap
 simp [IntKind.bits, IntKind.signed]
 omega
def relB (r a b : Int) : Bool := if r = 0 then decide (a = b) else if r = 1 then !decide (a = b) else if r = 2 then decide (a < b) else if r = 3 then decide (a ≤ b) else if r = 4 then decide (b < a) else if r = 5 then decide (b ≤ a) else false
def dotI : List Int → List Int → Int
 | a :: r, b :: s => a * b + dotI r s
 | _, _ => 0
def smallI (n : Int) : Prop := -1048576 ≤ n ∧ n ≤ 1048576
theorem mul_small {a b : Int} (ha : smallI a) (hb : smallI b) : -1099511627776 ≤ a * b ∧ a * b ≤ 1099511627776 := by
 obtain ⟨a1, a2⟩ := ha
 obtain ⟨b1, b2⟩ := hb
 constructor
 ·rcases Int.le_total 0 a with h | h
  ·have h1 : a * (-1048576) ≤ a * b := Int.mul_le_mul_of_nonneg_left b1 h
   omega
  ·have h1 : a * 1048576 ≤ a * b := Int.mul_le_mul_of_nonpos_left h b2
   omega
 ·rcases Int.le_total 0 a with h | h
  ·have h1 : a * b ≤ a * 1048576 := Int.mul_le_mul_of_nonneg_left b2 h
   omega
  ·have h1 : a * b ≤ a * (-1048576) := Int.mul_le_mul_of_nonpos_left h b1
   omega
end Go.RR
namespace Go.RR.M
open Go Go.RR
theorem sums_size (a : Int) (ha : smallI a) (h : List Ob) : acw C n_sums_size [iv a] h = some (.ret (.int .u64 (if a < 0 then -a else a)), h) := by
 obtain ⟨h1, h2⟩ := ha
 refine acw_ex (v := .int .u64 (if a < 0 then -a else a)) (CT T_sums_size) rfl rfl (fun _ => rfl) (by simp) ?_
 by_cases c : a < 0
 ·have w1 := wrapU_neg c (by omega)
  have w2 : IntKind.u64.wrap (-(a + 18446744073709551616)) = -a := by
   rw [wrapU_neg (by omega) (by omega)]; omega
  simp [runW_fin, F_sums_size, i_sums_size, c, w1, w2]
 ·have w1 := wrapU (n := a) (by omega) (by omega)
  simp [runW_fin, F_sums_size, i_sums_size, c, w1]
theorem mul64 (x y : Int) (hx : 0 ≤ x ∧ x ≤ 1048576) (hy : 0 ≤ y ∧ y ≤ 1048576) (h : List Ob) : acw C n_math_bits_Mul64 [.int .u64 x, .int .u64 y] h = some (.ret (.tup [.int .u64 0, .int .u64 (x * y)]), h) := by
 have hm := mul_small (a := x) (b := y) ⟨by omega, hx.2⟩ ⟨by omega, hy.2⟩
 have h0 : 0 ≤ x * y := Int.mul_nonneg hx.1 hy.1
 refine acw_S (a2 := [.int .u64 x, .int .u64 y]) (v := .tup [.int .u64 0, .int .u64 (x * y)]) rfl rfl rfl ?_ (by simp)
 have e1 : x * y / 18446744073709551616 = 0 := Int.ediv_eq_zero_of_lt h0 (by omega)
 have e2 : x * y % 18446744073709551616 = x * y := Int.emod_eq_of_lt h0 (by omega)
 have h3 : x < 18446744073709551616 := by omega
 have h4 : y < 18446744073709551616 := by omega
 simp [C, S, n_math_bits_Mul64, n_slices_Clone_sapi_Span_api_Span, n_stringslite_Index, hx.1, hy.1, h3, h4, e1, e2]
theorem sums_Mul (a b : Int) (ha : smallI a) (hb : smallI b) (h : List Ob) : acw C n_sums_Mul [iv a, iv b] h = some (.ret (.tup [iv (a * b), iv 0]), h) := by
 have k1 := sums_size a ha
 have k2 := sums_size b hb
 have hm := mul_small ha hb
 obtain ⟨a1, a2⟩ := ha
 obtain ⟨b1, b2⟩ := hb
 refine acw_ex (v := .tup [iv (a * b), iv 0]) (CT T_sums_Mul) rfl rfl (fun _ => rfl) (by simp) ?_
 by_cases ca : a < 0 <;> by_cases cb : b < 0 <;> simp only [ca, cb, if_true, if_false] at k1 k2
 ·have k3 := mul64 (-a) (-b) (by omega) (by omega)
  rw [Int.neg_mul_neg] at k3
  have h0 : 0 ≤ a * b := by rw [← Int.neg_mul_neg]; exact Int.mul_nonneg (by omega) (by omega)
  have w1 : IntKind.i64.wrap (a * b) = a * b := wrap64 (by omega) (by omega)
  have h1 : a * b < 9223372036854775808 := by omega
  simp [runW_fin, F_sums_Mul, i_sums_Mul, ca, cb, k1, k2, k3, w1, h1]
 ·have k3 := mul64 (-a) b (by omega) (by omega)
  rw [Int.neg_mul] at k3
  have h0 : 0 ≤ -(a * b) := by rw [← Int.neg_mul]; exact Int.mul_nonneg (by omega) (by omega)
  have w1 : IntKind.i64.wrap (-(a * b)) = -(a * b) := wrap64 (by omega) (by omega)
  have w2 : IntKind.i64.wrap (a * b) = a * b := wrap64 (by omega) (by omega)
  have h1 : -(a * b) < 9223372036854775808 := by omega
  simp [runW_fin, F_sums_Mul, i_sums_Mul, ca, cb, k1, k2, k3, w1, w2, h1]
 ·have k3 := mul64 a (-b) (by omega) (by omega)
  rw [Int.mul_neg] at k3
  have h0 : 0 ≤ -(a * b) := by rw [← Int.mul_neg]; exact Int.mul_nonneg (by omega) (by omega)
  have w1 : IntKind.i64.wrap (-(a * b)) = -(a * b) := wrap64 (by omega) (by omega)
  have w2 : IntKind.i64.wrap (a * b) = a * b := wrap64 (by omega) (by omega)
  have h1 : -(a * b) < 9223372036854775808 := by omega
  simp [runW_fin, F_sums_Mul, i_sums_Mul, ca, cb, k1, k2, k3, w1, w2, h1]
 ·have k3 := mul64 a b (by omega) (by omega)
  have h0 : 0 ≤ a * b := Int.mul_nonneg (by omega) (by omega)
  have w1 : IntKind.i64.wrap (a * b) = a * b := wrap64 (by omega) (by omega)
  have h1 : a * b < 9223372036854775808 := by omega
  simp [runW_fin, F_sums_Mul, i_sums_Mul, ca, cb, k1, k2, k3, w1, h1]
theorem sums_Add (a b : Int) (ha : -4611686018427387904 ≤ a ∧ a ≤ 4611686018427387903) (hb : -4611686018427387904 ≤ b ∧ b ≤ 4611686018427387903) (h : List Ob) : acw C n_sums_Add [iv a, iv b] h = some (.ret (.tup [iv (a + b), iv 0]), h) := by
 refine acw_ex (v := .tup [iv (a + b), iv 0]) (CT T_sums_Add) rfl rfl (fun _ => rfl) (by simp) ?_
 have w1 : IntKind.i64.wrap (a + b) = a + b := wrap64 (by omega) (by omega)
 by_cases ca : a < 0 <;> by_cases cb : b < 0
 ·have c3 : a + b < 0 := by omega
  simp [runW_fin, F_sums_Add, i_sums_Add, ca, cb, c3, w1]
 ·simp [runW_fin, F_sums_Add, i_sums_Add, ca, cb, w1]
 ·simp [runW_fin, F_sums_Add, i_sums_Add, ca, cb, w1]
 ·have c3 : ¬ a + b < 0 := by omega
  simp [runW_fin, F_sums_Add, i_sums_Add, ca, cb, c3, w1]
theorem dot_loop (l m : List Int) (hlm : l.length = m.length) (hl : l.length ≤ 150) (h1 : ∀ x ∈ l, smallI x) (h2 : ∀ x ∈ m, smallI x) (h : List Ob) : ∀ (k i : Nat) (s : Int), i + k = l.length → -(1099511627776 * (i : Int)) ≤ s ∧ s ≤ 1099511627776 * (i : Int) →
  ∃ fr', evw C y0 i_sums_Dot_l0 [(0, intsV l), (1, intsV m), (6, iv s), (16, iv l.length), (17, iv i)] h = some (.ext 0, fr', h) ∧ get fr' 6 = iv (s + dotI (l.drop i) (m.drop i)) := by
 intro k
 induction k with
 | zero =>
  intro i s hi hs
  have : i = l.length := by omega
  subst this
  rw [r_sums_Dot_0, List.drop_length]
  refine ⟨[(0, intsV l), (1, intsV m), (6, iv s), (16, iv l.length), (17, iv l.length), (18, .bool false)], ?_, by simp [get, dotI]⟩
  simp [b_sums_Dot_0]
 | succ k ih =>
  intro i s hi hs
  have hlt : i < l.length := by omega
  have hlt' : i < m.length := by omega
  have hw := wrap_succ hlt (by omega)
  have hm := mul_small (h1 _ (List.getElem_mem hlt)) (h2 _ (List.getElem_mem hlt'))
  have k1 := sums_Mul l[i] m[i] (h1 _ (List.getElem_mem hlt)) (h2 _ (List.getElem_mem hlt'))
  have k2 := sums_Add s (l[i] * m[i]) (by omega) (by omega)
  obtain ⟨fr', e1, e2⟩ := ih (i + 1) (s + l[i] * m[i]) (by omega) (by rw [Int.natCast_add]; omega)
  simp only [Int.natCast_add, Int.cast_ofNat_Int] at e1
  refine ⟨fr', ?_, ?_⟩
  ·rw [r_sums_Dot_0, ← e1]
   simp [b_sums_Dot_0, hlt, hlt', k1, k2, hw]
  ·rw [e2, List.drop_eq_getElem_cons hlt, List.drop_eq_getElem_cons hlt']
   simp only [dotI, Int.add_assoc]
theorem sums_Dot (l m : List Int) (hlm : l.length = m.length) (hl : l.length ≤ 150) (h1 : ∀ x ∈ l, smallI x) (h2 : ∀ x ∈ m, smallI x) (h : List Ob) : acw C n_sums_Dot [intsV l, intsV m] h = some (.ret (.tup [iv (dotI l m), iv 0]), h) := by
 refine acw_ex (v := .tup [iv (dotI l m), iv 0]) (CT T_sums_Dot) rfl rfl (fun _ => rfl) (by simp) ?_
 obtain ⟨fr', e1, e2⟩ := dot_loop l m hlm hl h1 h2 [] l.length 0 0 (by omega) (by omega)
 simp only [Int.cast_ofNat_Int, List.drop_zero, Int.zero_add] at e1 e2
 have hlm' : (l.length : Int) = m.length := by omega
 rw [hlm'] at e1
 simp [runW_fin, F_sums_Dot, i_sums_Dot, e1, e2, hlm', hlm]
theorem sums_Holds (a r b : Int) (h : List Ob) : acw C n_sums_Holds [iv a, iv r, iv b] h = some (.ret (.bool (relB r a b)), h) := by
 refine acw_ex (v := .bool (relB r a b)) (CT T_sums_Holds) rfl rfl (fun _ => rfl) (by simp) ?_
 unfold relB
 by_cases c0 : r = 0
 ·subst c0; simp [runW_fin, F_sums_Holds, i_sums_Holds, ieq]
 by_cases c1 : r = 1
 ·subst c1; simp [runW_fin, F_sums_Holds, i_sums_Holds, ine]
 by_cases c2 : r = 2
 ·subst c2; simp [runW_fin, F_sums_Holds, i_sums_Holds]
 by_cases c3 : r = 3
 ·subst c3; simp [runW_fin, F_sums_Holds, i_sums_Holds]
 by_cases c4 : r = 4
 ·subst c4; simp [runW_fin, F_sums_Holds, i_sums_Holds]
 by_cases c5 : r = 5
 ·subst c5; simp [runW_fin, F_sums_Holds, i_sums_Holds]
 simp [runW_fin, F_sums_Holds, i_sums_Holds, c0, c1, c2, c3, c4, c5, ieq]
end Go.RR.M
set_option linter.unusedVariables false
set_option linter.unusedSimpArgs false
set_option maxRecDepth 100000
set_option maxHeartbeats 4000000
namespace Go.RR
/-- values of a constraint's variables -/
def valsOf (c : Con) (row : List Int) : List Int := c.vars.map fun v => row.getD v.toNat 0
theorem valsOf_len (c : Con) (row : List Int) : (valsOf c row).length = c.vars.length := by simp [valsOf]
def tabN (n : Nat) (vals : List Int) : Nat → List Int → Bool
 | 0, _ => false
 | k + 1, nums => decide (nums.take n = vals) || tabN n vals k (nums.drop n)
def holdsB (c : Con) (row : List Int) : Bool :=
 if c.kind = 1 then relB c.rel (dotI c.coefs (valsOf c row)) c.const
 else if c.kind = 2 then decide ((valsOf c row).getD 0 0 * (valsOf c row).getD 1 0 = (valsOf c row).getD 2 0)
 else if c.kind = 3 then (decide ((valsOf c row).getD 0 0 = 1) && relB c.rel (dotI c.coefs ((valsOf c row).drop 1)) c.const) || (decide ((valsOf c row).getD 0 0 = 0) && !relB c.rel (dotI c.coefs ((valsOf c row).drop 1)) c.const)
 else if c.kind = 4 then decide (0 ≤ (valsOf c row).getD 0 0) && (decide ((valsOf c row).getD 0 0 < c.nums.length) && decide (c.nums.getD ((valsOf c row).getD 0 0).toNat 0 = (valsOf c row).getD 1 0))
 else if c.kind = 5 then decide (valsOf c row).Nodup
 else tabN c.vars.length (valsOf c row) (c.nums.length / c.vars.length) c.nums
theorem vOK_all {n : Int} : ∀ {l pre : List Int}, vOK n pre l = true → ∀ v ∈ l, 0 ≤ v ∧ v < n
 | [], _, _, v, hv => by simp at hv
 | x :: r, pre, h, v, hv => by
  simp only [vOK, Bool.and_eq_true, decide_eq_true_eq] at h
  rcases List.mem_cons.1 hv with rfl | hv
  ·exact ⟨h.1.1.1, h.1.1.2⟩
  ·exact vOK_all h.2 v hv
theorem withinB_all {m : Int} {l : List Int} (h : withinB m l = true) : ∀ x ∈ l, -m ≤ x ∧ x ≤ m := by
 unfold withinB at h
 intro x hx
 have := List.all_eq_true.1 h x hx
 simpa using this
theorem dotI_take : ∀ (l m : List Int), dotI l (m.take l.length) = dotI l m
 | [], m => rfl
 | a :: r, [] => rfl
 | a :: r, b :: s => by simp [dotI, dotI_take r s]
end Go.RR
namespace Go.RR.M
open Go Go.RR
theorem cmp_loop (c : Con) (vals : List Int) (hv : c.coefs.length ≤ vals.length) (hl : c.coefs.length ≤ 150) : ∀ (k i : Nat), i + k = c.coefs.length → 1 ≤ i →
  evw C y0 i_ground_compared_l0 [(1, intsV vals), (2, .ptr 0 0 0 1), (5, .own 1 0 i i), (6, .own 2 0 i i), (12, intsV c.coefs), (13, iv c.coefs.length), (14, iv i)] [.row 6 [conV c], .row 1 ((c.coefs.map (V.int .i64)).take i), .row 1 ((vals.map (V.int .i64)).take i)] =
   some (.ext 0, [(1, intsV vals), (2, .ptr 0 0 0 1), (5, .own 1 0 c.coefs.length c.coefs.length), (6, .own 2 0 c.coefs.length c.coefs.length), (12, intsV c.coefs), (13, iv c.coefs.length), (14, iv c.coefs.length), (15, .bool false)], [.row 6 [conV c], .row 1 (c.coefs.map (V.int .i64)), .row 1 ((vals.map (V.int .i64)).take c.coefs.length)]) := by
 intro k
 induction k with
 | zero =>
  intro i hi h1
  have : i = c.coefs.length := by omega
  subst this
  rw [r_ground_compared_0]
  have e : (c.coefs.map (V.int .i64)).take c.coefs.length = c.coefs.map (V.int .i64) := List.take_of_length_le (by simp)
  rw [e]
  simp [b_ground_compared_0]
 | succ k ih =>
  intro i hi h1
  have hlt : i < c.coefs.length := by omega
  have hlt' : i < vals.length := by omega
  have hw := wrap_succ hlt (by omega)
  have ih := ih (i + 1) (by omega) (by omega)
  simp only [Int.natCast_add, Int.cast_ofNat_Int] at ih
  have e1 : appV 3 [.row 6 [conV c], .row 1 ((c.coefs.map (V.int .i64)).take i), .row 1 ((vals.map (V.int .i64)).take i)] 1 8 (.own 1 0 i i) (.sl 1 [iv c.coefs[i]]) = some (.own 1 0 (i + 1) (i + 1), some (1, .row 1 ((c.coefs.map (V.int .i64)).take i ++ [iv c.coefs[i]]))) :=
   appV_own rfl (by simp; omega) rfl (by simp) rfl (by omega) (by omega)
  have e2 : appV 3 [.row 6 [conV c], .row 1 ((c.coefs.map (V.int .i64)).take i ++ [iv c.coefs[i]]), .row 1 ((vals.map (V.int .i64)).take i)] 1 8 (.own 2 0 i i) (.sl 1 [iv vals[i]]) = some (.own 2 0 (i + 1) (i + 1), some (2, .row 1 ((vals.map (V.int .i64)).take i ++ [iv vals[i]]))) :=
   appV_own rfl (by simp; omega) rfl (by simp) rfl (by omega) (by omega)
  have t1 : (c.coefs.map (V.int .i64)).take i ++ [iv c.coefs[i]] = (c.coefs.map (V.int .i64)).take (i + 1) := by
   rw [← List.take_append_getElem (by simpa using hlt)]; simp
  have t2 : (vals.map (V.int .i64)).take i ++ [iv vals[i]] = (vals.map (V.int .i64)).take (i + 1) := by
   rw [← List.take_append_getElem (by simpa using hlt')]; simp
  have k4 : ∀ x : Int, bsfL (.int .i64 0) [iv x] = some (.sl 1 [iv x]) := fun _ => rfl
  rw [r_ground_compared_0, ← ih, ← t1, ← t2]
  simp [b_ground_compared_0, hlt, hlt', hw, e1, e2, k4]
theorem compared (c : Con) (vals : List Int) (hv : c.coefs.length ≤ vals.length) (h0 : 1 ≤ c.coefs.length) (hl : c.coefs.length ≤ 150) (h1 : ∀ x ∈ c.coefs, smallI x) (h2 : ∀ x ∈ vals, smallI x) (h : List Ob) : acw C n_ground_compared [conV c, intsV vals] h = some (.ret (.bool (relB c.rel (dotI c.coefs vals) c.const)), h) := by
 refine acw_ex (v := .bool (relB c.rel (dotI c.coefs vals) c.const)) (CT T_ground_compared) rfl rfl (fun _ => rfl) (by simp) ?_
 have hlt : 0 < c.coefs.length := by omega
 have hlt' : 0 < vals.length := by omega
 obtain ⟨n, hn⟩ : ∃ n, c.coefs.length = n + 1 := ⟨c.coefs.length - 1, by omega⟩
 have ih := cmp_loop c vals hv hl n 1 (by omega) (by omega)
 simp only [Int.cast_ofNat_Int] at ih
 have t0 : ∀ (l : List Int) (h : 0 < l.length), (l.map (V.int .i64)).take 1 = [iv l[0]] := fun l h => by
  cases l with
  | nil => simp at h
  | cons a r => simp
 have t1 := t0 c.coefs hlt
 have t2 := t0 vals hlt'
 rw [t1, t2] at ih
 have e1 : appV 1 [.row 6 [conV c]] 1 8 (.nsl 1) (.sl 1 [iv c.coefs[0]]) = some (.own 1 0 1 1, some (1, .row 1 [iv c.coefs[0]])) := appV_nsl rfl (by simp) rfl (by omega) (by omega)
 have e2 : appV 2 [.row 6 [conV c], .row 1 [iv c.coefs[0]]] 1 8 (.nsl 1) (.sl 1 [iv vals[0]]) = some (.own 2 0 1 1, some (2, .row 1 [iv vals[0]])) := appV_nsl rfl (by simp) rfl (by omega) (by omega)
 have k4 : ∀ x : Int, bsfL (.int .i64 0) [iv x] = some (.sl 1 [iv x]) := fun _ => rfl
 have first : evw C y0 i_ground_compared_l0 [(1, intsV vals), (2, .ptr 0 0 0 1), (5, .nsl 1), (6, .nsl 1), (12, intsV c.coefs), (13, iv c.coefs.length), (14, iv 0)] [.row 6 [conV c]] = evw C y0 i_ground_compared_l0 [(1, intsV vals), (2, .ptr 0 0 0 1), (5, .own 1 0 1 1), (6, .own 2 0 1 1), (12, intsV c.coefs), (13, iv c.coefs.length), (14, iv 1)] [.row 6 [conV c], .row 1 [iv c.coefs[0]], .row 1 [iv vals[0]]] := by
  rw [r_ground_compared_0]
  have hp : (0 : Int) < c.coefs.length := by omega
  have hp' : (0 : Int) < vals.length := by omega
  simp [b_ground_compared_0, hlt, hlt', hp, hp', e1, e2, k4]
 rw [ih] at first
 have hd := sums_Dot c.coefs (vals.take c.coefs.length) (by simp; omega) hl h1 (fun x hx => h2 x (List.mem_of_mem_take hx))
 rw [dotI_take] at hd
 have hk : acw C n_sums_Dot [.own 1 0 c.coefs.length c.coefs.length, .own 2 0 c.coefs.length c.coefs.length] [.row 6 [conV c], .row 1 (c.coefs.map (V.int .i64)), .row 1 ((vals.map (V.int .i64)).take c.coefs.length)] = some (.ret (.tup [iv (dotI c.coefs vals), iv 0]), [.row 6 [conV c], .row 1 (c.coefs.map (V.int .i64)), .row 1 ((vals.map (V.int .i64)).take c.coefs.length)]) := by
  refine acw_of_frz (CT T_sums_Dot) rfl ?_ rfl (hd []) rfl
  have m1 : ∀ (h : List Ob) (l : List Int), mapO (frz h 11) (l.map (V.int .i64)) = some (l.map (V.int .i64)) := fun h l => mapO_id fun x hx => by
   obtain ⟨d, -, rfl⟩ := List.mem_map.1 hx; rfl
  have q1 : ((vals.map (V.int .i64)).take c.coefs.length).length = c.coefs.length := by simp; omega
  have q2 : (c.coefs.map (V.int .i64)).length = c.coefs.length := by simp
  have f1 : ∀ h : List Ob, h[1]? = some (.row 1 (c.coefs.map (V.int .i64))) → frz h 12 (.own 1 0 c.coefs.length c.coefs.length) = some (intsV c.coefs) := fun h e => by
   have := AccB.frz (B := 0) (h := h) (v := .own 1 0 c.coefs.length c.coefs.length) (z := 1) (xs := c.coefs.map (V.int .i64)) 11 (.own (Nat.zero_le _) q2.symm e) (m1 _ _)
   exact this
  have f2 : ∀ h : List Ob, h[2]? = some (.row 1 ((vals.map (V.int .i64)).take c.coefs.length)) → frz h 12 (.own 2 0 c.coefs.length c.coefs.length) = some (intsV (vals.take c.coefs.length)) := fun h e => by
   have := AccB.frz (B := 0) (h := h) (v := .own 2 0 c.coefs.length c.coefs.length) (z := 1) (xs := (vals.map (V.int .i64)).take c.coefs.length) 11 (.own (Nat.zero_le _) q1.symm e) (by rw [← List.map_take]; exact m1 _ _)
   exact this
  have g1 := f1 [.row 6 [conV c], .row 1 (c.coefs.map (V.int .i64)), .row 1 ((vals.map (V.int .i64)).take c.coefs.length)] rfl
  have g2 := f2 [.row 6 [conV c], .row 1 (c.coefs.map (V.int .i64)), .row 1 ((vals.map (V.int .i64)).take c.coefs.length)] rfl
  show mapO (frz _ 12) _ = _
  simp only [mapO, g1, g2]
 have k5 := sums_Holds (dotI c.coefs vals) c.rel c.const
 simp [runW_fin, F_ground_compared, i_ground_compared, first, hk, k5]
theorem holds_1 (c : Con) (row : List Int) (i : Nat) (hi : i < c.vars.length) (hr : 0 ≤ c.vars[i] ∧ c.vars[i] < row.length) {h : List Ob} {x y : V} (hx : frzL h [iv i, x, y] = some [iv i, .pin (intsV row) 0, .pin (conV c) 0]) : acw C n_ground_holds_1 [iv i, x, y] h = some (.ret (iv ((valsOf c row).getD i 0)), h) := by
 have e : (valsOf c row).getD i 0 = row[c.vars[i].toNat]'(by omega) := by
  have hlt : c.vars[i].toNat < row.length := by omega
  simp [valsOf, hi, hlt]
 have hlt : c.vars[i].toNat < row.length := by omega
 refine acw_ex (v := iv ((valsOf c row).getD i 0)) (CT T_ground_holds_1) rfl hx (fun _ => rfl) (by simp) ?_
 rw [e]
 have hat : at? (row.map (V.int .i64)) c.vars[i] = some (iv row[c.vars[i].toNat]) := by simp [at?, hr.1, hlt]
 simp [runW_fin, F_ground_holds_1, i_ground_holds_1, hi, hr.1, hr.2, hat]
end Go.RR.M
set_option linter.unusedVariables false
set_option linter.unusedSimpArgs false
set_option maxRecDepth 100000
set_option maxHeartbeats 8000000
namespace Go.RR
open Go.Lib
theorem comp_nodup {l : List Int} (hs : l.Pairwise (· ≤ ·)) : (compact l).length = l.length ↔ l.Nodup := by
 have e : (compact l).length = l.length ↔ ∀ j, j < l.length → keeps l.toArray j = true := by
  unfold compact compactUpTo
  rw [List.length_map]
  have := List.length_filter_eq_length_iff (p := keeps l.toArray) (l := List.range l.length)
  rw [List.length_range] at this
  rw [this]
  simp
 rw [e, List.nodup_iff_pairwise_ne, List.pairwise_iff_getElem]
 rw [List.pairwise_iff_getElem] at hs
 constructor
 ·intro h i j hi hj hij
  have h1 := h j hj
  unfold keeps at h1
  have hj0 : j ≠ 0 := by omega
  simp only [hj0, false_or, decide_eq_true_eq] at h1
  rw [getElem!_pos _ j (by simpa using hj), getElem!_pos _ (j - 1) (by simp; omega)] at h1
  simp only [List.getElem_toArray] at h1
  have h2 : l[j - 1] ≤ l[j] := hs (j - 1) j (by omega) hj (by omega)
  have h3 : l[i] ≤ l[j - 1] := by
   rcases Nat.lt_or_ge i (j - 1) with h4 | h4
   ·exact hs i (j - 1) hi (by omega) h4
   ·have : i = j - 1 := by omega
    subst this; exact Int.le_refl _
  omega
 ·intro h j hj
  unfold keeps
  simp only [decide_eq_true_eq]
  rcases Nat.eq_zero_or_pos j with h0 | h0
  ·exact .inl h0
  ·right
   rw [getElem!_pos _ j (by simpa using hj), getElem!_pos _ (j - 1) (by simp; omega)]
   simp only [List.getElem_toArray]
   exact fun e => h (j - 1) j (by omega) hj (by omega) e.symm
theorem comp_dec (l : List Int) : decide ((compact (sortI l)).length = l.length) = decide l.Nodup := by
 have h1 := comp_nodup (sortI_sorted l)
 rw [sortI_length] at h1
 have h2 := (sortI_perm l).nodup_iff
 by_cases h : l.Nodup
 ·simp [h, h1.2 (h2.2 h)]
 ·have : ¬ (compact (sortI l)).length = l.length := fun e => h (h2.1 (h1.1 e))
  simp [h, this]
end Go.RR
namespace Go.RR.M
open Go Go.RR Go.Lib
theorem eq_ints (l m : List Int) (hl : l.length ≤ 4611686018427387904) (h : List Ob) : acw C n_slices_Equal_sint_int [intsV l, intsV m] h = some (.ret (.bool (decide (l = m))), h) := by
 have := equal (C := C) (n := n_slices_Equal_sint_int) (CT T_slices_Equal_sint_int) rfl (enc := V.int .i64) (q := fun a b => a == b) cmpn_int l m hl (fun _ => elt_int) h
 rw [this, all2_eq]
 congr 4
 by_cases e : l = m <;> simp [e]
abbrev H0 (c : Con) (row : List Int) (t : List Ob) : List Ob := .row 6 [conV c] :: .row 1 [intsV row] :: t
theorem of_frz (c : Con) (row : List Int) (i : Int) (t : List Ob) : frzL (H0 c row t) [iv i, .ptr 1 0 0 1, .ptr 0 0 0 1] = some [iv i, .pin (intsV row) 0, .pin (conV c) 0] := rfl
theorem of_frz' (c : Con) (row : List Int) (i : Int) (t : List Ob) : frzL ((H0 c row t).take 4096) [iv i, .ptr 1 0 0 1, .ptr 0 0 0 1] = some [iv i, .pin (intsV row) 0, .pin (conV c) 0] := rfl
section
variable (c : Con) (row : List Int) (hr : ∀ v ∈ c.vars, 0 ≤ v ∧ v < row.length)
theorem of_ (hr : ∀ v ∈ c.vars, 0 ≤ v ∧ v < row.length) (i : Nat) (hi : i < c.vars.length) (t : List Ob) : acw C n_ground_holds_1 [iv i, .ptr 1 0 0 1, .ptr 0 0 0 1] (H0 c row t) = some (.ret (iv ((valsOf c row).getD i 0)), H0 c row t) :=
 holds_1 c row i hi (hr _ (List.getElem_mem hi)) (of_frz c row i t)
theorem of_dq (hr : ∀ v ∈ c.vars, 0 ≤ v ∧ v < row.length) (i : Nat) (hi : i < c.vars.length) (t : List Ob) (r : Option (Out × List Ob)) : dq false r (crw C y0) n_ground_holds_1 [iv i, .ptr 1 0 0 1, .ptr 0 0 0 1] (H0 c row t) = some (.ret (iv ((valsOf c row).getD i 0)), H0 c row t) :=
 dq_frz (of_frz' c row i t) rfl rfl (holds_1 c row i hi (hr _ (List.getElem_mem hi)) (h := []) rfl) rfl rfl r
theorem vals_loop (hr : ∀ v ∈ c.vars, 0 ≤ v ∧ v < row.length) (hn : c.vars.length ≤ 150) : ∀ (k i : Nat), i + k = c.vars.length → 1 ≤ i →
  evw C y0 i_ground_holds_l0 [(2, .ptr 0 0 0 1), (5, .fn (.func n_ground_holds_1) [] [.ptr 1 0 0 1, .ptr 0 0 0 1]), (6, .own 2 0 i i), (13, iv c.vars.length), (14, iv i)] (H0 c row [.row 1 (((valsOf c row).map (V.int .i64)).take i)]) =
   some (.ext 0, [(2, .ptr 0 0 0 1), (5, .fn (.func n_ground_holds_1) [] [.ptr 1 0 0 1, .ptr 0 0 0 1]), (6, .own 2 0 c.vars.length c.vars.length), (13, iv c.vars.length), (14, iv c.vars.length), (15, .bool false)], H0 c row [.row 1 ((valsOf c row).map (V.int .i64))]) := by
 intro k
 induction k with
 | zero =>
  intro i hi h1
  have : i = c.vars.length := by omega
  subst this
  rw [r_ground_holds_0]
  have e : ((valsOf c row).map (V.int .i64)).take c.vars.length = (valsOf c row).map (V.int .i64) := List.take_of_length_le (by simp [valsOf_len])
  rw [e]
  simp [b_ground_holds_0]
 | succ k ih =>
  intro i hi h1
  have hlt : i < c.vars.length := by omega
  have hlt' : i < (valsOf c row).length := by rw [valsOf_len]; exact hlt
  have hw := wrap_succ hlt (by omega)
  have ih := ih (i + 1) (by omega) (by omega)
  simp only [Int.natCast_add, Int.cast_ofNat_Int] at ih
  have k1 := of_ c row hr i hlt
  obtain ⟨x, ex⟩ : ∃ x, x = (valsOf c row).getD i 0 := ⟨_, rfl⟩
  rw [← ex] at k1
  have e1 : appV 3 (H0 c row [.row 1 (((valsOf c row).map (V.int .i64)).take i)]) 1 8 (.own 2 0 i i) (.sl 1 [iv x]) = some (.own 2 0 (i + 1) (i + 1), some (2, .row 1 (((valsOf c row).map (V.int .i64)).take i ++ [iv x]))) :=
   appV_own rfl (by simp; omega) rfl (by simp) rfl (by omega) (by omega)
  have t1 : ((valsOf c row).map (V.int .i64)).take i ++ [iv x] = ((valsOf c row).map (V.int .i64)).take (i + 1) := by
   rw [← List.take_append_getElem (by simpa using hlt')]
   simp [ex, hlt']
  have k4 : ∀ x : Int, bsfL (.int .i64 0) [iv x] = some (.sl 1 [iv x]) := fun _ => rfl
  rw [r_ground_holds_0, ← ih, ← t1]
  simp [b_ground_holds_0, hlt, hw, k1, e1, k4]
theorem vals_all (hr : ∀ v ∈ c.vars, 0 ≤ v ∧ v < row.length) (hn : c.vars.length ≤ 150) (h0 : 1 ≤ c.vars.length) :
  evw C y0 i_ground_holds_l0 [(2, .ptr 0 0 0 1), (5, .fn (.func n_ground_holds_1) [] [.ptr 1 0 0 1, .ptr 0 0 0 1]), (6, .nsl 1), (13, iv c.vars.length), (14, iv 0)] (H0 c row []) =
   some (.ext 0, [(2, .ptr 0 0 0 1), (5, .fn (.func n_ground_holds_1) [] [.ptr 1 0 0 1, .ptr 0 0 0 1]), (6, .own 2 0 c.vars.length c.vars.length), (13, iv c.vars.length), (14, iv c.vars.length), (15, .bool false)], H0 c row [.row 1 ((valsOf c row).map (V.int .i64))]) := by
 obtain ⟨n, hn'⟩ : ∃ n, c.vars.length = n + 1 := ⟨c.vars.length - 1, by omega⟩
 have ih := vals_loop c row hr hn n 1 (by omega) (by omega)
 simp only [Int.cast_ofNat_Int] at ih
 have k1 := of_ c row hr 0 (by omega)
 simp only [Int.cast_ofNat_Int] at k1
 obtain ⟨x, ex⟩ : ∃ x, x = (valsOf c row).getD 0 0 := ⟨_, rfl⟩
 rw [← ex] at k1
 have hp : 0 < c.vars.length := by omega
 have hl : 0 < (valsOf c row).length := by rw [valsOf_len]; omega
 have e1 : appV 2 (H0 c row []) 1 8 (.nsl 1) (.sl 1 [iv x]) = some (.own 2 0 1 1, some (2, .row 1 [iv x])) := appV_nsl rfl (by simp) rfl (by omega) (by omega)
 have t1 : ((valsOf c row).map (V.int .i64)).take 1 = [iv x] := by
  rw [ex]
  cases hv : valsOf c row with
  | nil => rw [hv] at hl; simp at hl
  | cons a r => simp
 rw [t1] at ih
 have k4 : ∀ x : Int, bsfL (.int .i64 0) [iv x] = some (.sl 1 [iv x]) := fun _ => rfl
 rw [r_ground_holds_0, ← ih]
 simp [b_ground_holds_0, hp, k1, e1, k4]
theorem tab_loop (hn : c.vars.length ≤ 150) (h0 : 1 ≤ c.vars.length) : ∀ (k : Nat) (rest : List Int), rest.length = k * c.vars.length → rest.length ≤ 150 →
  evw C y0 i_ground_holds_l1 [(6, .own 2 0 c.vars.length c.vars.length), (9, intsV rest)] (H0 c row [.row 1 ((valsOf c row).map (V.int .i64))]) =
   some (if tabN c.vars.length (valsOf c row) k rest = true then (.ret, [(4, .bool true)], H0 c row [.row 1 ((valsOf c row).map (V.int .i64))]) else (.ext 3, [(6, .own 2 0 c.vars.length c.vars.length), (9, intsV []), (101, .bool false)], H0 c row [.row 1 ((valsOf c row).map (V.int .i64))])) := by
 intro k
 induction k with
 | zero =>
  intro rest hl hb
  have : rest = [] := List.eq_nil_of_length_eq_zero (by omega)
  subst this
  rw [r_ground_holds_1]
  simp [b_ground_holds_1, tabN]
 | succ k ih =>
  intro rest hl hb
  have hge : c.vars.length ≤ rest.length := by rw [hl, Nat.add_mul]; omega
  have hge' : (c.vars.length : Int) ≤ rest.length := by omega
  have hp : 0 < rest.length := by omega
  have ih := ih (rest.drop c.vars.length) (by rw [List.length_drop, hl, Nat.add_mul]; omega) (by rw [List.length_drop]; omega)
  have hk : acw C n_slices_Equal_sint_int [.sl 1 ((rest.map (V.int .i64)).take c.vars.length), .own 2 0 c.vars.length c.vars.length] (H0 c row [.row 1 ((valsOf c row).map (V.int .i64))]) = some (.ret (.bool (decide (rest.take c.vars.length = valsOf c row))), H0 c row [.row 1 ((valsOf c row).map (V.int .i64))]) := by
   have e := eq_ints (rest.take c.vars.length) (valsOf c row) (by rw [List.length_take]; omega) []
   simp only [intsV, List.map_take] at e
   refine acw_of_frz (CT T_slices_Equal_sint_int) rfl ?_ rfl e rfl
   have g2 := AccB.frz (B := 0) (h := H0 c row [.row 1 ((valsOf c row).map (V.int .i64))]) (v := .own 2 0 c.vars.length c.vars.length) (z := 1) (xs := (valsOf c row).map (V.int .i64)) 11 (.own (Nat.zero_le _) (by simp [valsOf_len]) rfl) (frz_ints _ _ _)
   show mapO (frz _ 12) _ = _
   simp only [mapO, g2, show frz (H0 c row [.row 1 ((valsOf c row).map (V.int .i64))]) 12 (.sl 1 ((rest.map (V.int .i64)).take c.vars.length)) = some (.sl 1 ((rest.map (V.int .i64)).take c.vars.length)) from rfl]
  have tk : (rest.map (V.int .i64)).take rest.length = rest.map (V.int .i64) := List.take_of_length_le (by simp)
  simp only [intsV, List.map_drop] at ih
  rw [r_ground_holds_1]
  simp only [tabN]
  by_cases c1 : rest.take c.vars.length = valsOf c row
  ·simp only [c1, decide_true] at hk
   simp [b_ground_holds_1, valsOf_len, hp, hge, hge', hk, c1]
  ·simp only [c1, decide_false] at hk
   simp only [c1, decide_false, Bool.false_or, ← ih]
   simp [b_ground_holds_1, valsOf_len, hp, hge, hge', hk, tk]
end
end Go.RR.M
set_option linter.unusedVariables false
set_option linter.unusedSimpArgs false
set_option maxRecDepth 100000
set_option maxHeartbeats 8000000
namespace Go.RR.M
open Go Go.RR Go.Lib
theorem varsB_inv {c : Con} {n a b : Int} (h : varsB c n a b = true) : (a ≤ c.vars.length ∧ (c.vars.length : Int) ≤ b) ∧ ∀ v ∈ c.vars, 0 ≤ v ∧ v < n := by
 unfold varsB at h
 simp only [Bool.and_eq_true, decide_eq_true_eq] at h
 exact ⟨h.1, vOK_all h.2⟩
theorem sumB_inv {c : Con} {b : Int} (h : sumB c b = true) : (c.coefs.length : Int) = c.vars.length - b ∧ (∀ x ∈ c.coefs, smallI x) ∧ (0 ≤ c.rel ∧ c.rel ≤ 5) ∧ (-1099511627776 ≤ c.const ∧ c.const ≤ 1099511627776) ∧ c.nums.length = 0 := by
 unfold sumB at h
 simp only [Bool.and_eq_true, decide_eq_true_eq] at h
 obtain ⟨h1, h2, -, h4, h5, h6, h7⟩ := h
 exact ⟨h1, fun x hx => withinB_all h2 x hx, ⟨h4, h5⟩, withinB_all h6 _ (by simp), h7⟩
theorem bareB_inv {c : Con} {a b : Int} (h : bareB c a b = true) : c.coefs.length = 0 ∧ (a ≤ c.nums.length ∧ (c.nums.length : Int) ≤ b) ∧ ∀ x ∈ c.nums, smallI x := by
 unfold bareB at h
 simp only [Bool.and_eq_true, decide_eq_true_eq] at h
 obtain ⟨h1, -, -, h4, h5, h6⟩ := h
 exact ⟨h1, ⟨h4, h5⟩, fun x hx => withinB_all h6 x hx⟩
/-- what is known of constraints that may be -/
inductive Kd (c : Con) (n : Int) : Prop where
 | lin (h : c.kind = 1) (hv : varsB c n 1 8 = true) (hs : sumB c 0 = true)
 | prod (h : c.kind = 2) (hv : varsB c n 3 3 = true) (hs : bareB c 0 0 = true)
 | iff (h : c.kind = 3) (hv : varsB c n 2 9 = true) (hs : sumB c 1 = true)
 | elt (h : c.kind = 4) (hv : varsB c n 2 2 = true) (hs : bareB c 1 96 = true)
 | dif (h : c.kind = 5) (hv : varsB c n 2 8 = true) (hs : bareB c 0 0 = true)
 | tab (h : c.kind = 6) (hv : varsB c n 1 8 = true) (hs : bareB c 0 96 = true) (hm : ((c.nums.length : Int).tmod c.vars.length) = 0)
theorem kd {c : Con} {n : Int} (h : rightB c n = true) : Kd c n := by
 unfold rightB at h
 split at h
 ·rename_i e; unfold linearB at h; simp only [Bool.and_eq_true] at h; exact .lin e h.1 h.2
 split at h
 ·rename_i e; unfold productB at h; simp only [Bool.and_eq_true] at h; exact .prod e h.1 h.2
 split at h
 ·rename_i e; unfold iffB at h; simp only [Bool.and_eq_true] at h; exact .iff e h.1 h.2
 split at h
 ·rename_i e; unfold elementB at h; simp only [Bool.and_eq_true] at h; exact .elt e h.1 h.2
 split at h
 ·rename_i e; unfold differB at h; simp only [Bool.and_eq_true] at h; exact .dif e h.1 h.2
 split at h
 ·rename_i e; unfold tableB at h; simp only [Bool.and_eq_true, decide_eq_true_eq] at h; exact .tab e h.1 h.2.1 h.2.2
 ·cases h
theorem Kd.vars {c : Con} {n : Int} (h : Kd c n) : (1 ≤ c.vars.length ∧ c.vars.length ≤ 9) ∧ ∀ v ∈ c.vars, 0 ≤ v ∧ v < n := by
 cases h with
 | lin _ hv => have := varsB_inv hv; exact ⟨by omega, this.2⟩
 | prod _ hv => have := varsB_inv hv; exact ⟨by omega, this.2⟩
 | iff _ hv => have := varsB_inv hv; exact ⟨by omega, this.2⟩
 | elt _ hv => have := varsB_inv hv; exact ⟨by omega, this.2⟩
 | dif _ hv => have := varsB_inv hv; exact ⟨by omega, this.2⟩
 | tab _ hv => have := varsB_inv hv; exact ⟨by omega, this.2⟩
theorem vals_small {c : Con} {row : List Int} (hr : ∀ x ∈ row, smallI x) : ∀ x ∈ valsOf c row, smallI x := by
 intro x hx
 unfold valsOf at hx
 obtain ⟨v, -, rfl⟩ := List.mem_map.1 hx
 rw [List.getD_eq_getElem?_getD]
 cases e : row[v.toNat]? with
 | none => exact ⟨by simp, by simp⟩
 | some y => exact hr y (List.mem_of_getElem? e)
theorem getD_small {l : List Int} (h : ∀ x ∈ l, smallI x) (i : Nat) : smallI (l.getD i 0) := by
 rw [List.getD_eq_getElem?_getD]
 cases e : l[i]? with
 | none => exact ⟨by simp, by simp⟩
 | some y => exact h y (List.mem_of_getElem? e)
abbrev HV (c : Con) (row : List Int) : List Ob := H0 c row [.row 1 ((valsOf c row).map (V.int .i64))]
theorem frz_vals (c : Con) (row : List Int) (k : Nat) (hk : k ≤ c.vars.length) (h : List Ob) (hh : h[2]? = some (.row 1 ((valsOf c row).map (V.int .i64)))) : frz h 12 (.own 2 k (c.vars.length - k) c.vars.length) = some (intsV ((valsOf c row).drop k)) := by
 have e : elems h (.own 2 k (c.vars.length - k) c.vars.length) = some (1, ((valsOf c row).drop k).map (V.int .i64)) := by
  simp only [elems, rowOf, hh, List.length_map, valsOf_len, if_true]
  rw [List.map_drop, List.take_of_length_le (by simp [valsOf_len])]
 show (match elems h (.own 2 k (c.vars.length - k) c.vars.length) with
  | some (z, xs) => (mapO (frz h 11) xs).map (V.sl z)
  | none => none) = _
 rw [e]
 simp only [frz_ints h 10, Option.map_some]
/-- whether a constraint holds -/
theorem holds (c : Con) (row : List Int) (hk : rightB c row.length = true) (hrow : ∀ x ∈ row, smallI x) (h : List Ob) : acw C n_ground_holds [conV c, intsV row] h = some (.ret (.bool (holdsB c row)), h) := by
 have K := kd hk
 obtain ⟨⟨h1, h9⟩, hr⟩ := K.vars
 have k0 := vals_all c row hr (by omega) h1
 have hvs := vals_small (c := c) hrow
 have hlen := valsOf_len c row
 refine acw_ex (v := .bool (holdsB c row)) (CT T_ground_holds) rfl rfl (fun _ => rfl) (by simp) ?_
 have o := of_ c row hr
 have q := of_dq c row hr
 obtain ⟨v0, e0⟩ : ∃ x, x = (valsOf c row).getD 0 0 := ⟨_, rfl⟩
 obtain ⟨v1, e1⟩ : ∃ x, x = (valsOf c row).getD 1 0 := ⟨_, rfl⟩
 obtain ⟨v2, e2⟩ : ∃ x, x = (valsOf c row).getD 2 0 := ⟨_, rfl⟩
 have s0 : smallI v0 := by rw [e0]; exact getD_small hvs 0
 have s1 : smallI v1 := by rw [e1]; exact getD_small hvs 1
 have s2 : smallI v2 := by rw [e2]; exact getD_small hvs 2
 have o0 := o 0 (by omega) [.row 1 ((valsOf c row).map (V.int .i64))]
 have q0 := q 0 (by omega) [.row 1 ((valsOf c row).map (V.int .i64))]
 rw [← e0] at o0 q0
 simp only [Int.cast_ofNat_Int] at o0 q0
 unfold holdsB
 rw [← e0, ← e1, ← e2]
 cases K with
 | lin e hv hs =>
  have hs := sumB_inv hs
  have hd : acw C n_ground_compared [conV c, .own 2 0 c.vars.length c.vars.length] (HV c row) = some (.ret (.bool (relB c.rel (dotI c.coefs (valsOf c row)) c.const)), HV c row) := by
   refine acw_of_frz (CT T_ground_compared) rfl ?_ rfl (compared c (valsOf c row) (by omega) (by omega) (by omega) hs.2.1 hvs []) rfl
   have := frz_vals c row 0 (by omega) (HV c row) rfl
   show mapO (frz _ 12) _ = _
   simp only [Nat.sub_zero, List.drop_zero] at this
   simp only [mapO, this, show frz (HV c row) 12 (conV c) = some (conV c) from rfl]
  obtain ⟨kind, vars, coefs, rel, const, nums⟩ := c
  dsimp only at *
  subst e
  simp [runW_fin, F_ground_holds, i_ground_holds, k0, hd]
 | prod e hv hs =>
  have hv := varsB_inv hv
  have o1 := o 1 (by omega) [.row 1 ((valsOf c row).map (V.int .i64))]
  have o2 := o 2 (by omega) [.row 1 ((valsOf c row).map (V.int .i64))]
  rw [← e1] at o1
  rw [← e2] at o2
  simp only [Int.cast_ofNat_Int] at o1 o2
  have hm := mul_small s0 s1
  have w : IntKind.i64.wrap (v0 * v1) = v0 * v1 := wrap64 (by omega) (by omega)
  obtain ⟨kind, vars, coefs, rel, const, nums⟩ := c
  dsimp only at *
  subst e
  simp [runW_fin, F_ground_holds, i_ground_holds, k0, o0, o1, o2, w, ieq]
 | iff e hv hs =>
  have hv := varsB_inv hv
  have hs := sumB_inv hs
  have hcmp := compared c ((valsOf c row).drop 1) (by rw [List.length_drop]; omega) (by omega) (by omega) hs.2.1 (fun x hx => hvs x (List.mem_of_mem_drop hx)) []
  have hge : (1 : Int) ≤ c.vars.length := by omega
  have hge' : 1 ≤ c.vars.length := by omega
  have hd : ∀ r, dq false r (crw C y0) n_ground_compared [conV c, .own 2 1 (c.vars.length - 1) c.vars.length] (HV c row) = some (.ret (.bool (relB c.rel (dotI c.coefs ((valsOf c row).drop 1)) c.const)), HV c row) := by
   intro r
   refine dq_frz (a2 := [conV c, intsV ((valsOf c row).drop 1)]) ?_ rfl rfl hcmp rfl rfl r
   have := frz_vals c row 1 (by omega) ((HV c row).take 4096) rfl
   show mapO (frz _ 12) _ = _
   simp only [mapO, this, show frz ((HV c row).take 4096) 12 (conV c) = some (conV c) from rfl]
  obtain ⟨kind, vars, coefs, rel, const, nums⟩ := c
  dsimp only at *
  subst e
  generalize relB rel (dotI coefs ((valsOf ⟨3, vars, coefs, rel, const, nums⟩ row).drop 1)) const = is at *
  by_cases c1 : v0 = 1
  ·subst c1
   cases is <;> simp [runW_fin, F_ground_holds, i_ground_holds, k0, hd, o0, hge, hge', hlen]
  ·by_cases c2 : v0 = 0
   ·subst c2
    cases is <;> simp [runW_fin, F_ground_holds, i_ground_holds, k0, hd, o0, hge, hge', hlen]
   ·cases is <;> simp [runW_fin, F_ground_holds, i_ground_holds, k0, hd, o0, hge, hge', hlen, c1, c2, ieq]
 | elt e hv hs =>
  have hv := varsB_inv hv
  have hs := bareB_inv hs
  have q1 := q 1 (by omega) [.row 1 ((valsOf c row).map (V.int .i64))]
  rw [← e1] at q1
  simp only [Int.cast_ofNat_Int] at q1
  obtain ⟨kind, vars, coefs, rel, const, nums⟩ := c
  dsimp only at *
  subst e
  by_cases c1 : 0 ≤ v0
  ·by_cases c2 : v0 < nums.length
   ·have hlt : v0.toNat < nums.length := by omega
    have ha := at_ints (l := nums) c1 hlt
    have hg : nums.getD v0.toNat 0 = nums[v0.toNat] := by simp [hlt]
    rw [hg]
    simp [runW_fin, F_ground_holds, i_ground_holds, k0, q0, q1, c1, c2, ha, ieq]
   ·simp [runW_fin, F_ground_holds, i_ground_holds, k0, q0, q1, c1, c2, ieq]
  ·simp [runW_fin, F_ground_holds, i_ground_holds, k0, q0, q1, c1, ieq]
 | dif e hv hs =>
  have hv := varsB_inv hv
  have hsort : acw C n_slices_Sort_sint_int [.own 2 0 c.vars.length c.vars.length] (HV c row) = some (.ret (.tup []), H0 c row [.row 1 ((sortI (valsOf c row)).map (V.int .i64))]) := by
   refine acw_H rfl ?_
   have hb : c.vars.length < 4611686018427387904 := by omega
   simp [C, H, sortH, hlen, hb]
  have hcomp : acw C n_slices_Compact_sint_int [.own 2 0 c.vars.length c.vars.length] (H0 c row [.row 1 ((sortI (valsOf c row)).map (V.int .i64))]) = some (.ret (.own 2 0 (compact (sortI (valsOf c row))).length c.vars.length), H0 c row [.row 1 ((compact (sortI (valsOf c row)) ++ List.replicate ((sortI (valsOf c row)).length - (compact (sortI (valsOf c row))).length) 0).map (V.int .i64))]) := by
   refine acw_H rfl ?_
   have hb : c.vars.length < 4611686018427387904 := by omega
   have hp : 0 < c.vars.length := by omega
   simp [C, H, compH, hlen, hb, hp, sortI_length, n_slices_Sort_sint_int, n_slices_Compact_sint_int]
  have hc := comp_dec (valsOf c row)
  rw [hlen] at hc
  have hle := compact_length_le (sortI (valsOf c row))
  rw [sortI_length, hlen] at hle
  have hadd : (compact (sortI (valsOf c row))).length + (c.vars.length - (compact (sortI (valsOf c row))).length) = c.vars.length := by omega
  rw [← hc]
  have hci : ((compact (sortI (valsOf c row))).length = c.vars.length) ↔ (((compact (sortI (valsOf c row))).length : Int) = c.vars.length) := by omega
  obtain ⟨kind, vars, coefs, rel, const, nums⟩ := c
  dsimp only at *
  subst e
  simp [runW_fin, F_ground_holds, i_ground_holds, k0, hsort, hcomp, hlen, sortI_length, hadd, ieq, hci]
 | tab e hv hs hm =>
  have hv := varsB_inv hv
  have hs := bareB_inv hs
  have hmod : c.nums.length % c.vars.length = 0 := by
   rw [Int.tmod_eq_emod_of_nonneg (by omega)] at hm
   omega
  have hdiv := Nat.div_add_mod c.nums.length c.vars.length
  rw [hmod, Nat.add_zero, Nat.mul_comm] at hdiv
  have ht := tab_loop c row (by omega) h1 (c.nums.length / c.vars.length) c.nums hdiv.symm (by omega)
  obtain ⟨kind, vars, coefs, rel, const, nums⟩ := c
  dsimp only at *
  subst e
  cases hb : tabN vars.length (valsOf ⟨6, vars, coefs, rel, const, nums⟩ row) (nums.length / vars.length) nums with
  | true =>
   simp only [hb, if_true] at ht
   simp [runW_fin, F_ground_holds, i_ground_holds, k0, ht]
  | false =>
   simp only [hb, Bool.false_eq_true, if_false] at ht
   simp [runW_fin, F_ground_holds, i_ground_holds, k0, ht]
end Go.RR.M
set_option linter.unusedVariables false
set_option linter.unusedSimpArgs false
set_option maxRecDepth 100000
set_option maxHeartbeats 8000000
namespace Go.RR
def c150 (c : Con) : Prop := c.vars.length ≤ 150 ∧ c.coefs.length ≤ 150 ∧ c.nums.length ≤ 150
end Go.RR
namespace Go.RR.M
open Go Go.RR
theorem c150_len {c : Con} (h : c150 c) : lenOK c := ⟨by have := h.1; omega, by have := h.2.1; omega, by have := h.2.2; omega⟩
def gRightB (l : List Con) (row : List Int) : Bool := withinB 1048576 row && l.all fun c => rightB c row.length
def allB (l : List Con) (row : List Int) : Bool := gRightB l row && l.all fun c => holdsB c row
theorem gRight_inv {l : List Con} {row : List Int} (h : gRightB l row = true) : (∀ x ∈ row, smallI x) ∧ ∀ c ∈ l, rightB c row.length = true := by
 unfold gRightB at h
 simp only [Bool.and_eq_true, List.all_eq_true] at h
 exact ⟨fun x hx => withinB_all h.1 x hx, h.2⟩
theorem gr_loop (l : List Con) (row : List Int) (hl : row.length ≤ 4611686018427387904) : ∀ (k i : Nat), i + k = row.length →
  evw C y0 i_ground_Right_l0 [(0, consV l), (3, .ptr 0 0 0 1), (7, intsV row), (8, iv row.length), (9, iv i)] [.row 1 [intsV row]] = some (if withinB 1048576 (row.drop i) = true then (.ext 0, [(0, consV l), (3, .ptr 0 0 0 1), (7, intsV row), (8, iv row.length), (9, iv row.length), (10, .bool false)], [.row 1 [intsV row]]) else (.ret, [(4, .bool false)], [.row 1 [intsV row]])) := by
 intro k
 induction k with
 | zero =>
  intro i hi
  have : i = row.length := by omega
  subst this
  rw [r_ground_Right_0, List.drop_length]
  simp [b_ground_Right_0, withinB]
 | succ k ih =>
  intro i hi
  have hlt : i < row.length := by omega
  have hw := wrap_succ hlt (by omega)
  have ih := ih (i + 1) (by omega)
  simp only [Int.natCast_add, Int.cast_ofNat_Int] at ih
  rw [r_ground_Right_0, List.drop_eq_getElem_cons hlt]
  have e : withinB 1048576 (row[i] :: row.drop (i + 1)) = ((decide (-1048576 ≤ row[i]) && decide (row[i] ≤ 1048576)) && withinB 1048576 (row.drop (i + 1))) := rfl
  rw [e]
  by_cases c1 : row[i] < -1048576
  ·have c1' : ¬ (-1048576 ≤ row[i]) := by omega
   simp [b_ground_Right_0, hlt, c1, c1']
  have c1' : -1048576 ≤ row[i] := by omega
  by_cases c2 : 1048576 < row[i]
  ·have c2' : ¬ (row[i] ≤ 1048576) := by omega
   simp [b_ground_Right_0, hlt, c1, c1', c2, c2']
  have c2' : row[i] ≤ 1048576 := by omega
  simp only [c1', c2', decide_true, Bool.true_and, ← ih]
  simp [b_ground_Right_0, hlt, c1, c2, hw]
theorem gRight_1 (c : Con) (hc : c150 c) (row : List Int) (h : List Ob) : acw C n_ground_Right_1 [conV c, .pin (intsV row) 0] h = some (.ret (.bool (!rightB c row.length)), h) := by
 refine acw_ex (v := .bool (!rightB c row.length)) (CT T_ground_Right_1) rfl rfl (fun _ => rfl) (by simp) ?_
 have k := right c row.length (c150_len hc)
 simp [runW_fin, F_ground_Right_1, i_ground_Right_1, k]
theorem not_any_not {α : Type} (l : List α) (p : α → Bool) : (!(l.any fun c => !p c)) = l.all p := by
 induction l with
 | nil => rfl
 | cons x r ih => simp only [List.any_cons, List.all_cons, Bool.not_or, Bool.not_not, ih]
theorem gRight (l : List Con) (row : List Int) (hl : l.length ≤ 150) (hr : row.length ≤ 4611686018427387904) (hc : ∀ c ∈ l, c150 c) (h : List Ob) : acw C n_ground_Right [consV l, intsV row] h = some (.ret (.bool (gRightB l row)), h) := by
 refine acw_ex (v := .bool (gRightB l row)) (CT T_ground_Right) rfl rfl (fun _ => rfl) (by simp) ?_
 have k1 := gr_loop l row hr row.length 0 (by omega)
 simp only [List.drop_zero, Int.cast_ofNat_Int] at k1
 have k2 : acw C n_slices_ContainsFunc_sapi_Con_api_Con [consV l, .fn (.func n_ground_Right_1) [] [.ptr 0 0 0 1]] [.row 1 [intsV row]] = some (.ret (.bool (l.any fun c => !rightB c row.length)), [.row 1 [intsV row]]) :=
  containsFunc (C := C) (m := n_slices_ContainsFunc_sapi_Con_api_Con) (n := n_slices_IndexFunc_sapi_Con_api_Con) (enc := conV) (CT T_slices_IndexFunc_sapi_Con_api_Con) (CT T_slices_ContainsFunc_sapi_Con_api_Con) (g := n_ground_Right_1) (first := []) (cap := [.pin (intsV row) 0]) l (by omega) (fun _ _ => conV_elt _) (frz_box (x' := intsV row) rfl rfl) (fun _ => rfl) (p := fun c => !rightB c row.length) (fun a ha => gRight_1 a (hc a ha) row [])
 unfold gRightB
 rw [← not_any_not]
 rcases Bool.eq_false_or_eq_true (withinB 1048576 row) with e | e <;> simp only [e, Bool.false_eq_true, if_true, if_false] at k1 <;> simp only [e]
 ·simp [runW_fin, F_ground_Right, i_ground_Right, k1, k2]
 ·simp [runW_fin, F_ground_Right, i_ground_Right, k1]
theorem gAll_1 (c : Con) (row : List Int) (hk : rightB c row.length = true) (hrow : ∀ x ∈ row, smallI x) (h : List Ob) : acw C n_ground_All_1 [conV c, .pin (intsV row) 0] h = some (.ret (.bool (!holdsB c row)), h) := by
 refine acw_ex (v := .bool (!holdsB c row)) (CT T_ground_All_1) rfl rfl (fun _ => rfl) (by simp) ?_
 have k := holds c row hk hrow
 simp [runW_fin, F_ground_All_1, i_ground_All_1, k]
theorem gAll (l : List Con) (row : List Int) (hl : l.length ≤ 150) (hr : row.length ≤ 4611686018427387904) (hc : ∀ c ∈ l, c150 c) (h : List Ob) : acw C n_ground_All [consV l, intsV row] h = some (.ret (.bool (allB l row)), h) := by
 refine acw_ex (v := .bool (allB l row)) (CT T_ground_All) rfl rfl (fun _ => rfl) (by simp) ?_
 have k1 := gRight l row hl hr hc
 unfold allB
 rcases Bool.eq_false_or_eq_true (gRightB l row) with e | e
 ·obtain ⟨h1, h2⟩ := gRight_inv e
  have k2 : acw C n_slices_ContainsFunc_sapi_Con_api_Con [consV l, .fn (.func n_ground_All_1) [] [.ptr 0 0 0 1]] [.row 1 [intsV row]] = some (.ret (.bool (l.any fun c => !holdsB c row)), [.row 1 [intsV row]]) :=
   containsFunc (C := C) (m := n_slices_ContainsFunc_sapi_Con_api_Con) (n := n_slices_IndexFunc_sapi_Con_api_Con) (enc := conV) (CT T_slices_IndexFunc_sapi_Con_api_Con) (CT T_slices_ContainsFunc_sapi_Con_api_Con) (g := n_ground_All_1) (first := []) (cap := [.pin (intsV row) 0]) l (by omega) (fun _ _ => conV_elt _) (frz_box (x' := intsV row) rfl rfl) (fun _ => rfl) (p := fun c => !holdsB c row) (fun a ha => gAll_1 a row (h2 a ha) h1 [])
  rw [e] at k1
  rw [e, ← not_any_not]
  simp [runW_fin, F_ground_All, i_ground_All, k1, k2]
 ·rw [e] at k1
  rw [e]
  simp [runW_fin, F_ground_All, i_ground_All, k1]
end Go.RR.M
set_option linter.unusedVariables false
set_option linter.unusedSimpArgs false
set_option maxRecDepth 100000
set_option maxHeartbeats 8000000
namespace Go.RR
def dupN (pre : List Int) : List Int → Bool
 | [] => false
 | x :: r => (pre.any fun y => decide (x = y)) || dupN (pre ++ [x]) r
theorem dupN_iff : ∀ (l pre : List Int), pre.Nodup → (dupN pre l = false ↔ (pre ++ l).Nodup)
 | [], pre, h => by simp [dupN, h]
 | x :: r, pre, h => by
  simp only [dupN, Bool.or_eq_false_iff]
  by_cases hx : x ∈ pre
  ·have h1 : (pre.any fun y => decide (x = y)) = true := List.any_eq_true.2 ⟨x, hx, by simp⟩
   simp only [h1, Bool.true_eq_false, false_and, false_iff]
   intro hn
   rw [List.nodup_append] at hn
   exact hn.2.2 x hx x (by simp) rfl
  ·have h1 : (pre.any fun y => decide (x = y)) = false := by
    rw [Bool.eq_false_iff]
    intro e
    obtain ⟨y, hy, e⟩ := List.any_eq_true.1 e
    simp only [decide_eq_true_eq] at e
    subst e; exact hx hy
   have hn : (pre ++ [x]).Nodup := by
    rw [List.nodup_append]
    refine ⟨h, by simp, fun a ha b hb => ?_⟩
    simp only [List.mem_singleton] at hb
    subst hb
    exact fun e => hx (e ▸ ha)
   simp only [h1, true_and]
   rw [dupN_iff r (pre ++ [x]) hn, List.append_assoc]
   rfl
theorem dupN_dec (l : List Int) : (!dupN [] l) = decide l.Nodup := by
 have := dupN_iff l [] .nil
 simp only [List.nil_append] at this
 by_cases h : l.Nodup
 ·simp [h, this.2 h]
 ·have : dupN [] l = true := by
   cases e : dupN [] l with
   | true => rfl
   | false => exact absurd (this.1 e) h
  simp [h, this]
end Go.RR
namespace Go.RR.M
open Go Go.RR
theorem rg_l0 (l : List Con) (row : List Int) (hr : row.length ≤ 4611686018427387904) (h : List Ob) : ∀ (k i : Nat), i + k = row.length →
  ∃ fr', evw C y0 i_ref11_Right_l0 [(0, consV l), (1, intsV row), (5, iv i)] h = some (if withinB 1048576 (row.drop i) = true then (.ext 0, fr', h) else (.ret, [(4, .bool false)], h)) ∧ get fr' 0 = consV l ∧ get fr' 1 = intsV row := by
 intro k
 induction k with
 | zero =>
  intro i hi
  have : i = row.length := by omega
  subst this
  refine ⟨[(0, consV l), (1, intsV row), (5, iv row.length), (10, .bool false)], ?_, rfl, rfl⟩
  rw [r_ref11_Right_0, List.drop_length]
  simp [b_ref11_Right_0, withinB]
 | succ k ih =>
  intro i hi
  have hlt : i < row.length := by omega
  have hw := wrap_succ hlt (by omega)
  obtain ⟨fr', ih, g0, g1⟩ := ih (i + 1) (by omega)
  refine ⟨fr', ?_, g0, g1⟩
  simp only [Int.natCast_add, Int.cast_ofNat_Int] at ih
  rw [r_ref11_Right_0, List.drop_eq_getElem_cons hlt]
  have e : withinB 1048576 (row[i] :: row.drop (i + 1)) = ((decide (-1048576 ≤ row[i]) && decide (row[i] ≤ 1048576)) && withinB 1048576 (row.drop (i + 1))) := rfl
  rw [e]
  by_cases c1 : row[i] < -1048576
  ·have c1' : ¬ (-1048576 ≤ row[i]) := by omega
   simp [b_ref11_Right_0, hlt, c1, c1']
  have c1' : -1048576 ≤ row[i] := by omega
  by_cases c2 : 1048576 < row[i]
  ·have c2' : ¬ (row[i] ≤ 1048576) := by omega
   simp [b_ref11_Right_0, hlt, c1, c1', c2, c2']
  have c2' : row[i] ≤ 1048576 := by omega
  simp only [c1', c2', decide_true, Bool.true_and, ← ih]
  simp [b_ref11_Right_0, hlt, c1, c2, hw]
theorem rg_l1 (l : List Con) (row : List Int) (hl : l.length ≤ 150) (hc : ∀ c ∈ l, c150 c) (h : List Ob) : ∀ (k i : Nat), i + k = l.length →
  ∃ fr', evw C y0 i_ref11_Right_l1 [(0, consV l), (1, intsV row), (6, iv i)] h = some (if ((l.drop i).all fun c => rightB c row.length) = true then (.ext 2, fr', h) else (.ret, [(4, .bool false)], h)) := by
 intro k
 induction k with
 | zero =>
  intro i hi
  have : i = l.length := by omega
  subst this
  refine ⟨[(0, consV l), (1, intsV row), (6, iv l.length), (28, .bool false)], ?_⟩
  rw [r_ref11_Right_1, List.drop_length]
  simp [b_ref11_Right_1]
 | succ k ih =>
  intro i hi
  have hlt : i < l.length := by omega
  have hw := wrap_succ hlt (by omega)
  obtain ⟨fr', ih⟩ := ih (i + 1) (by omega)
  refine ⟨fr', ?_⟩
  simp only [Int.natCast_add, Int.cast_ofNat_Int] at ih
  have k1 := ref_right l[i] row.length (c150_len (hc _ (List.getElem_mem hlt)))
  rw [r_ref11_Right_1, List.drop_eq_getElem_cons hlt, List.all_cons]
  rcases Bool.eq_false_or_eq_true (rightB l[i] row.length) with e | e <;> rw [e] at k1 <;> simp only [e]
  ·simp only [Bool.true_and, ← ih]
   simp [b_ref11_Right_1, hlt, k1, hw]
  ·simp [b_ref11_Right_1, hlt, k1]
theorem rRight (l : List Con) (row : List Int) (hl : l.length ≤ 150) (hr : row.length ≤ 4611686018427387904) (hc : ∀ c ∈ l, c150 c) (h : List Ob) : acw C n_ref11_Right [consV l, intsV row] h = some (.ret (.bool (gRightB l row)), h) := by
 refine acw_ex (v := .bool (gRightB l row)) (CT T_ref11_Right) rfl rfl (fun _ => rfl) (by simp) ?_
 obtain ⟨fr', k1, g0, g1⟩ := rg_l0 l row hr [] row.length 0 (by omega)
 obtain ⟨fr2, k2⟩ := rg_l1 l row hl hc [] l.length 0 (by omega)
 simp only [List.drop_zero, Int.cast_ofNat_Int] at k1 k2
 unfold gRightB
 rcases Bool.eq_false_or_eq_true (withinB 1048576 row) with e | e <;> simp only [e, Bool.false_eq_true, if_true, if_false] at k1 <;> simp only [e]
 ·rcases Bool.eq_false_or_eq_true (l.all fun c => rightB c row.length) with e2 | e2 <;> simp only [e2, Bool.false_eq_true, if_true, if_false] at k2 <;> simp only [e2]
  ·simp [runW_fin, F_ref11_Right, i_ref11_Right, k1, k2, g0, g1]
  ·simp [runW_fin, F_ref11_Right, i_ref11_Right, k1, k2, g0, g1]
 ·simp [runW_fin, F_ref11_Right, i_ref11_Right, k1]
abbrev valL (vs row : List Int) : List Int := vs.map fun v => row.getD v.toNat 0
theorem sum_loop (c : Con) (vs row : List Int) (hlen : c.coefs.length = vs.length) (hl : vs.length ≤ 150) (hv : ∀ v ∈ vs, 0 ≤ v ∧ v < row.length) (h1 : ∀ x ∈ c.coefs, smallI x) (h2 : ∀ x ∈ row, smallI x) : ∀ (k i : Nat) (s : Int), i + k = vs.length → -(1099511627776 * (i : Int)) ≤ s ∧ s ≤ 1099511627776 * (i : Int) →
  ∃ fr', evw C y0 i_ref11_sum_l0 [(1, intsV vs), (2, intsV row), (3, .ptr 0 0 0 1), (7, iv s), (8, iv i)] [.row 6 [conV c]] = some (.ext 0, fr', [.row 6 [conV c]]) ∧ get fr' 3 = .ptr 0 0 0 1 ∧ get fr' 7 = iv (s + dotI (c.coefs.drop i) ((valL vs row).drop i)) := by
 intro k
 induction k with
 | zero =>
  intro i s hi hs
  have : i = vs.length := by omega
  subst this
  have e : c.coefs.drop vs.length = [] := by rw [← hlen, List.drop_length]
  rw [r_ref11_sum_0, e]
  refine ⟨[(1, intsV vs), (2, intsV row), (3, .ptr 0 0 0 1), (7, iv s), (8, iv vs.length), (14, .bool false)], ?_, rfl, by simp [get, dotI]⟩
  simp [b_ref11_sum_0]
 | succ k ih =>
  intro i s hi hs
  have hlt : i < vs.length := by omega
  have hlt' : i < c.coefs.length := by omega
  have hlt2 : i < (valL vs row).length := by simpa using hlt
  have hw := wrap_succ hlt (by omega)
  obtain ⟨v1, v2⟩ := hv _ (List.getElem_mem hlt)
  have hvl : vs[i].toNat < row.length := by omega
  have ha := at_ints (l := row) v1 hvl
  have e2 : (valL vs row)[i] = row[vs[i].toNat] := by simp [valL, hvl]
  have hm := mul_small (h1 _ (List.getElem_mem hlt')) (h2 _ (List.getElem_mem hvl))
  obtain ⟨fr', e1, g3, g7⟩ := ih (i + 1) (s + c.coefs[i] * row[vs[i].toNat]) (by omega) (by rw [Int.natCast_add]; omega)
  have w1 : IntKind.i64.wrap (c.coefs[i] * row[vs[i].toNat]) = c.coefs[i] * row[vs[i].toNat] := wrap64 (by omega) (by omega)
  have w2 : IntKind.i64.wrap (s + c.coefs[i] * row[vs[i].toNat]) = s + c.coefs[i] * row[vs[i].toNat] := wrap64 (by omega) (by omega)
  simp only [Int.natCast_add, Int.cast_ofNat_Int] at e1
  refine ⟨fr', ?_, g3, ?_⟩
  ·rw [r_ref11_sum_0, ← e1]
   simp [b_ref11_sum_0, hlt, hlt', v1, v2, ha, w1, w2, hw]
  ·rw [g7, List.drop_eq_getElem_cons hlt', List.drop_eq_getElem_cons hlt2, e2]
   simp only [dotI, Int.add_assoc]
theorem rsum (c : Con) (vs row : List Int) (hlen : c.coefs.length = vs.length) (hl : vs.length ≤ 150) (hv : ∀ v ∈ vs, 0 ≤ v ∧ v < row.length) (h1 : ∀ x ∈ c.coefs, smallI x) (h2 : ∀ x ∈ row, smallI x) (hrel : 0 ≤ c.rel ∧ c.rel ≤ 5) (h : List Ob) : acw C n_ref11_sum [conV c, intsV vs, intsV row] h = some (.ret (.bool (relB c.rel (dotI c.coefs (valL vs row)) c.const)), h) := by
 refine acw_ex (v := .bool (relB c.rel (dotI c.coefs (valL vs row)) c.const)) (CT T_ref11_sum) rfl rfl (fun _ => rfl) (by simp) ?_
 obtain ⟨fr', k1, g3, g7⟩ := sum_loop c vs row hlen hl hv h1 h2 vs.length 0 0 (by omega) (by omega)
 simp only [List.drop_zero, Int.cast_ofNat_Int, Int.zero_add] at k1 g7
 generalize dotI c.coefs (valL vs row) = s at g7 ⊢
 obtain ⟨kind, vars, coefs, rel, const, nums⟩ := c
 dsimp only at *
 unfold relB
 have hrel' : rel = 0 ∨ rel = 1 ∨ rel = 2 ∨ rel = 3 ∨ rel = 4 ∨ rel = 5 := by omega
 by_cases c1 : s < const
 ·have c2 : ¬ s = const := by omega
  have c3 : s ≤ const := by omega
  have c4 : ¬ const < s := by omega
  have c5 : ¬ const ≤ s := by omega
  rcases hrel' with rfl | rfl | rfl | rfl | rfl | rfl <;> simp [runW_fin, F_ref11_sum, i_ref11_sum, k1, g3, g7, c1, c2, c3, c4, c5, ieq]
 ·by_cases c2 : s = const
  ·subst c2
   rcases hrel' with rfl | rfl | rfl | rfl | rfl | rfl <;> simp [runW_fin, F_ref11_sum, i_ref11_sum, k1, g3, g7, ieq]
  ·have c3 : ¬ s ≤ const := by omega
   have c4 : const < s := by omega
   have c5 : const ≤ s := by omega
   rcases hrel' with rfl | rfl | rfl | rfl | rfl | rfl <;> simp [runW_fin, F_ref11_sum, i_ref11_sum, k1, g3, g7, c1, c2, c3, c4, c5, ieq]
end Go.RR.M
set_option linter.unusedVariables false
set_option linter.unusedSimpArgs false
set_option maxRecDepth 100000
set_option maxHeartbeats 8000000
namespace Go.RR.M
open Go Go.RR
theorem rv_loop (c : Con) (row : List Int) (hr : ∀ v ∈ c.vars, 0 ≤ v ∧ v < row.length) (hn : c.vars.length ≤ 150) : ∀ (k i : Nat), i + k = c.vars.length →
  evw C y0 i_ref11_Holds_l0 [(1, intsV row), (2, .ptr 0 0 0 1), (5, .own 1 0 i i), (6, iv i)] [.row 6 [conV c], .row 1 (((valsOf c row).map (V.int .i64)).take i)] =
   some (.ext 0, [(1, intsV row), (2, .ptr 0 0 0 1), (5, .own 1 0 c.vars.length c.vars.length), (6, iv c.vars.length), (18, .bool false)], [.row 6 [conV c], .row 1 ((valsOf c row).map (V.int .i64))]) := by
 intro k
 induction k with
 | zero =>
  intro i hi
  have : i = c.vars.length := by omega
  subst this
  have e : ((valsOf c row).map (V.int .i64)).take c.vars.length = (valsOf c row).map (V.int .i64) := List.take_of_length_le (by simp [valsOf_len])
  rw [r_ref11_Holds_0, e]
  simp [b_ref11_Holds_0]
 | succ k ih =>
  intro i hi
  have hlt : i < c.vars.length := by omega
  have hlt' : i < (valsOf c row).length := by rw [valsOf_len]; exact hlt
  have hw := wrap_succ hlt (by omega)
  have ih := ih (i + 1) (by omega)
  simp only [Int.natCast_add, Int.cast_ofNat_Int] at ih
  obtain ⟨v1, v2⟩ := hr _ (List.getElem_mem hlt)
  have hvl : c.vars[i].toNat < row.length := by omega
  have ha := at_ints (l := row) v1 hvl
  have e2 : (valsOf c row)[i] = row[c.vars[i].toNat] := by simp [valsOf, hvl]
  have e1 : appV 2 [.row 6 [conV c], .row 1 (((valsOf c row).map (V.int .i64)).take i)] 1 8 (.own 1 0 i i) (.sl 1 [iv row[c.vars[i].toNat]]) = some (.own 1 0 (i + 1) (i + 1), some (1, .row 1 (((valsOf c row).map (V.int .i64)).take i ++ [iv row[c.vars[i].toNat]]))) :=
   appV_own rfl (by simp; omega) rfl (by simp) rfl (by omega) (by omega)
  have t1 : ((valsOf c row).map (V.int .i64)).take i ++ [iv row[c.vars[i].toNat]] = ((valsOf c row).map (V.int .i64)).take (i + 1) := by
   rw [← List.take_append_getElem (by simpa using hlt'), List.getElem_map, e2]
  have k4 : ∀ x : Int, bsfL (.int .i64 0) [iv x] = some (.sl 1 [iv x]) := fun _ => rfl
  rw [r_ref11_Holds_0, ← ih, ← t1]
  simp [b_ref11_Holds_0, hlt, v1, v2, ha, hw, e1, k4]
abbrev RV (c : Con) (row : List Int) : List Ob := [.row 6 [conV c], .row 1 ((valsOf c row).map (V.int .i64))]
/-- where an element's number is looked for -/
theorem re_loop (c : Con) (row : List Int) (hl : c.nums.length ≤ 150) (v0 v1 : Int) (h2 : c.vars.length = 2) (e0 : ∀ h, (valsOf c row)[0]'h = v0) (e1 : ∀ h, (valsOf c row)[1]'h = v1) : ∀ (k i : Nat), i + k = c.nums.length →
  ∃ fr', evw C y0 i_ref11_Holds_l1 [(2, .ptr 0 0 0 1), (5, .own 1 0 c.vars.length c.vars.length), (7, iv i)] (RV c row) = some (if (i : Int) ≤ v0 ∧ v0 < c.nums.length then (.ret, [(4, .bool (decide (c.nums.getD v0.toNat 0 = v1)))], RV c row) else (.ext 3, fr', RV c row)) := by
 intro k
 induction k with
 | zero =>
  intro i hi
  have : i = c.nums.length := by omega
  subst this
  refine ⟨[(2, .ptr 0 0 0 1), (5, .own 1 0 c.vars.length c.vars.length), (7, iv c.nums.length), (83, .bool false)], ?_⟩
  rw [if_neg (by omega), r_ref11_Holds_1]
  simp [b_ref11_Holds_1]
 | succ k ih =>
  intro i hi
  have hlt : i < c.nums.length := by omega
  have hw := wrap_succ hlt (by omega)
  obtain ⟨fr', ih⟩ := ih (i + 1) (by omega)
  have hlen := valsOf_len c row
  rw [h2] at hlen
  simp only [Int.natCast_add, Int.cast_ofNat_Int] at ih
  by_cases ci : v0 = i
  ·subst ci
   have hg : c.nums.getD (i : Int).toNat 0 = c.nums[i] := by simp [hlt]
   refine ⟨[], ?_⟩
   rw [if_pos (by omega), hg, r_ref11_Holds_1]
   simp [b_ref11_Holds_1, hlt, h2, hlen, e0, e1, ieq]
  ·refine ⟨fr', ?_⟩
   have hc : ((i : Int) ≤ v0 ∧ v0 < c.nums.length) ↔ ((i : Int) + 1 ≤ v0 ∧ v0 < c.nums.length) := by omega
   rw [r_ref11_Holds_1]
   simp only [hc, ← ih]
   simp [b_ref11_Holds_1, hlt, h2, hlen, e0, e1, ci, ieq, hw]
/-- whether two are the same -/
theorem rd_loop2 (c : Con) (row : List Int) (hn : c.vars.length ≤ 150) (i : Nat) (hi : i < c.vars.length) (x : Int) (ex : ∀ h, (valsOf c row)[i]'h = x) : ∀ (k j : Nat), j + k = i →
  evw C y0 i_ref11_Holds_l2 [(5, .own 1 0 c.vars.length c.vars.length), (8, iv i), (9, iv j)] (RV c row) = some (if ((((valsOf c row).take i).drop j).any fun y => decide (x = y)) = true then (.ret, [(4, .bool false)], RV c row) else (.ext 7, [(5, .own 1 0 c.vars.length c.vars.length), (8, iv i), (9, iv i), (110, .bool false)], RV c row)) := by
 intro k
 induction k with
 | zero =>
  intro j hj
  have : j = i := by omega
  subst this
  rw [r_ref11_Holds_2, List.drop_eq_nil_of_le (by simp; omega)]
  simp [b_ref11_Holds_2]
 | succ k ih =>
  intro j hj
  have hlt : j < i := by omega
  have hlt' : (j : Int) < i := by omega
  have hjl : j < (valsOf c row).length := by rw [valsOf_len]; omega
  have hjl' : j < c.vars.length := by omega
  have hw : IntKind.i64.wrap ((j : Int) + 1) = (j : Int) + 1 := wrap64 (by omega) (by omega)
  have ih := ih (j + 1) (by omega)
  have hlen := valsOf_len c row
  simp only [Int.natCast_add, Int.cast_ofNat_Int] at ih
  have hd : ((valsOf c row).take i).drop j = (valsOf c row)[j] :: ((valsOf c row).take i).drop (j + 1) := by
   rw [List.drop_eq_getElem_cons (by simp; omega)]
   simp
  rw [r_ref11_Holds_2, hd, List.any_cons]
  obtain ⟨y, ey⟩ : ∃ y, ∀ h : j < (valsOf c row).length, (valsOf c row)[j]'h = y := ⟨(valsOf c row)[j]'hjl, fun _ => rfl⟩
  rw [ey]
  by_cases e : x = y
  ·subst e
   simp only [decide_true, Bool.true_or, if_true]
   simp [b_ref11_Holds_2, hlt, hjl, hjl', hi, hlen, ex, ey, ieq]
  ·simp only [e, decide_false, Bool.false_or, ← ih]
   simp [b_ref11_Holds_2, hlt, hjl, hjl', hi, hlen, ex, ey, e, ieq, hw]
theorem rd_loop (c : Con) (row : List Int) (hn : c.vars.length ≤ 150) : ∀ (k i : Nat), i + k = c.vars.length →
  ∃ fr', evw C y0 i_ref11_Holds_l3 [(5, .own 1 0 c.vars.length c.vars.length), (8, iv i)] (RV c row) = some (if dupN ((valsOf c row).take i) ((valsOf c row).drop i) = true then (.ret, [(4, .bool false)], RV c row) else (.ext 5, fr', RV c row)) := by
 intro k
 induction k with
 | zero =>
  intro i hi
  have : i = c.vars.length := by omega
  subst this
  refine ⟨[(5, .own 1 0 c.vars.length c.vars.length), (8, iv c.vars.length), (105, .bool false)], ?_⟩
  rw [r_ref11_Holds_3, List.drop_eq_nil_of_le (by rw [valsOf_len]; exact Nat.le_refl _)]
  simp [b_ref11_Holds_3, dupN, valsOf_len]
 | succ k ih =>
  intro i hi
  have hlt : i < c.vars.length := by omega
  have hlt' : i < (valsOf c row).length := by rw [valsOf_len]; exact hlt
  have hw := wrap_succ hlt (by omega)
  obtain ⟨fr', ih⟩ := ih (i + 1) (by omega)
  have hlen := valsOf_len c row
  simp only [Int.natCast_add, Int.cast_ofNat_Int] at ih
  have k1 := rd_loop2 c row hn i hlt (valsOf c row)[i] (fun _ => rfl) i 0 (by omega)
  simp only [List.drop_zero, Int.cast_ofNat_Int] at k1
  refine ⟨fr', ?_⟩
  rw [r_ref11_Holds_3, List.drop_eq_getElem_cons hlt']
  have tk := List.take_append_getElem hlt'
  simp only [dupN, tk]
  rcases Bool.eq_false_or_eq_true (((valsOf c row).take i).any fun y => decide ((valsOf c row)[i] = y)) with e | e <;> simp only [e, Bool.false_eq_true, if_true, if_false] at k1 <;> simp only [e]
  ·simp [b_ref11_Holds_3, hlt, hlen, k1]
  ·simp only [Bool.false_or, ← ih]
   simp [b_ref11_Holds_3, hlt, hlen, k1, hw]
/-- whether a table's row is theirs -/
theorem rt_loop2 (c : Con) (row : List Int) (hn : c.vars.length ≤ 150) (hl : c.nums.length ≤ 150) (at' : Nat) (hat : at' + c.vars.length ≤ c.nums.length) : ∀ (k i : Nat) (is : Bool), i + k = c.vars.length →
  ∃ fr', evw C y0 i_ref11_Holds_l4 [(2, .ptr 0 0 0 1), (5, .own 1 0 c.vars.length c.vars.length), (10, iv at'), (11, .bool is), (12, iv i)] (RV c row) = some (.ext 11, fr', RV c row) ∧ get fr' 2 = .ptr 0 0 0 1 ∧ get fr' 5 = .own 1 0 c.vars.length c.vars.length ∧ get fr' 10 = iv at' ∧ get fr' 11 = .bool (is && decide (((c.nums.drop at').take c.vars.length).drop i = (valsOf c row).drop i)) := by
 intro k
 induction k with
 | zero =>
  intro i is hi
  have : i = c.vars.length := by omega
  subst this
  refine ⟨[(2, .ptr 0 0 0 1), (5, .own 1 0 c.vars.length c.vars.length), (10, iv at'), (11, .bool is), (12, iv c.vars.length), (134, .bool false)], ?_, rfl, rfl, rfl, ?_⟩
  ·rw [r_ref11_Holds_4]
   simp [b_ref11_Holds_4, valsOf_len]
  ·rw [List.drop_eq_nil_of_le (by simp; omega), List.drop_eq_nil_of_le (by rw [valsOf_len]; exact Nat.le_refl _)]
   simp [get]
 | succ k ih =>
  intro i is hi
  have hlt : i < c.vars.length := by omega
  have hlt' : i < (valsOf c row).length := by rw [valsOf_len]; exact hlt
  have hlt2 : at' + i < c.nums.length := by omega
  have hlt3 : (at' : Int) + i < c.nums.length := by omega
  have hw := wrap_succ hlt (by omega)
  have hw2 : IntKind.i64.wrap ((at' : Int) + i) = (at' : Int) + i := wrap64 (by omega) (by omega)
  have hlen := valsOf_len c row
  have ha : at? (c.nums.map (V.int .i64)) ((at' : Int) + i) = some (iv c.nums[at' + i]) := by
   have : (at' : Int) + i = ((at' + i : Nat) : Int) := by omega
   rw [this, at_nat]
   simp [hlt2]
  have hp : (0 : Int) ≤ (at' : Int) + i := by omega
  obtain ⟨fr', ih, g2, g5, g10, g11⟩ := ih (i + 1) (is && decide (c.nums[at' + i] = (valsOf c row)[i])) (by omega)
  simp only [Int.natCast_add, Int.cast_ofNat_Int] at ih
  refine ⟨fr', ?_, g2, g5, g10, ?_⟩
  ·rw [r_ref11_Holds_4, ← ih]
   cases is with
   | false => simp [b_ref11_Holds_4, hlt, hlen, hw]
   | true => simp [b_ref11_Holds_4, hlt, hlt', hlen, hw, hw2, hlt3, hp, ha, ieq]
  ·rw [g11]
   have d1 : ((c.nums.drop at').take c.vars.length).drop i = c.nums[at' + i] :: ((c.nums.drop at').take c.vars.length).drop (i + 1) := by
    rw [List.drop_eq_getElem_cons (by simp; omega)]
    simp
   rw [d1, List.drop_eq_getElem_cons hlt']
   simp only [List.cons.injEq, Bool.decide_and, Bool.and_assoc]
theorem rt_loop (c : Con) (row : List Int) (hn : c.vars.length ≤ 150) (h0 : 1 ≤ c.vars.length) (hl : c.nums.length ≤ 150) : ∀ (k at' : Nat), c.nums.length = at' + k * c.vars.length →
  ∃ fr', evw C y0 i_ref11_Holds_l5 [(2, .ptr 0 0 0 1), (5, .own 1 0 c.vars.length c.vars.length), (10, iv at')] (RV c row) = some (if tabN c.vars.length (valsOf c row) k (c.nums.drop at') = true then (.ret, [(4, .bool true)], RV c row) else (.ext 9, fr', RV c row)) := by
 intro k
 induction k with
 | zero =>
  intro at' hk
  have : at' = c.nums.length := by omega
  subst this
  refine ⟨[(2, .ptr 0 0 0 1), (5, .own 1 0 c.vars.length c.vars.length), (10, iv c.nums.length), (126, .bool false)], ?_⟩
  rw [r_ref11_Holds_5]
  simp [b_ref11_Holds_5, tabN]
 | succ k ih =>
  intro at' hk
  have hk' : c.nums.length = at' + c.vars.length + k * c.vars.length := by rw [hk, Nat.add_mul]; omega
  have hlt : at' < c.nums.length := by omega
  have hlen := valsOf_len c row
  have hw : IntKind.i64.wrap ((at' : Int) + c.vars.length) = (at' : Int) + c.vars.length := wrap64 (by omega) (by omega)
  obtain ⟨fr', ih⟩ := ih (at' + c.vars.length) hk'
  obtain ⟨fr2, k1, g2, g5, g10, g11⟩ := rt_loop2 c row hn hl at' (by omega) c.vars.length 0 true (by omega)
  simp only [List.drop_zero, Int.cast_ofNat_Int, Bool.true_and] at k1 g11
  simp only [Int.natCast_add] at ih
  refine ⟨fr', ?_⟩
  rw [r_ref11_Holds_5]
  simp only [tabN, List.drop_drop]
  by_cases e : (c.nums.drop at').take c.vars.length = valsOf c row
  ·simp only [e, decide_true] at g11
   simp [b_ref11_Holds_5, hlt, k1, g2, g5, g10, g11, e]
  ·simp only [e, decide_false] at g11
   simp only [e, decide_false, Bool.false_or, ← ih]
   simp [b_ref11_Holds_5, hlt, hlen, k1, g2, g5, g10, g11, hw]
end Go.RR.M
set_option linter.unusedVariables false
set_option linter.unusedSimpArgs false
set_option maxRecDepth 100000
set_option maxHeartbeats 8000000
namespace Go.RR.M
open Go Go.RR
theorem rHolds (c : Con) (row : List Int) (hk : rightB c row.length = true) (hrow : ∀ x ∈ row, smallI x) (h : List Ob) : acw C n_ref11_Holds [conV c, intsV row] h = some (.ret (.bool (holdsB c row)), h) := by
 have K := kd hk
 obtain ⟨⟨h1, h9⟩, hr⟩ := K.vars
 have k0 := rv_loop c row hr (by omega) c.vars.length 0 (by omega)
 simp only [List.take_zero, Int.cast_ofNat_Int] at k0
 have hvs := vals_small (c := c) hrow
 have hlen := valsOf_len c row
 refine acw_ex (v := .bool (holdsB c row)) (CT T_ref11_Holds) rfl rfl (fun _ => rfl) (by simp) ?_
 obtain ⟨v0, e0⟩ : ∃ x, x = (valsOf c row).getD 0 0 := ⟨_, rfl⟩
 obtain ⟨v1, e1⟩ : ∃ x, x = (valsOf c row).getD 1 0 := ⟨_, rfl⟩
 obtain ⟨v2, e2⟩ : ∃ x, x = (valsOf c row).getD 2 0 := ⟨_, rfl⟩
 have s0 : smallI v0 := by rw [e0]; exact getD_small hvs 0
 have s1 : smallI v1 := by rw [e1]; exact getD_small hvs 1
 have gt : ∀ i, i < c.vars.length → (valsOf c row)[i]? = some ((valsOf c row).getD i 0) := fun i hi => by
  rw [← hlen] at hi
  simp [hi]
 have gx : ∀ {i x}, (valsOf c row)[i]? = some x → ∀ h, (valsOf c row)[i]'h = x := fun e h => (List.getElem?_eq_some_iff.1 e).2
 have g0 := gt 0 (by omega)
 rw [← e0] at g0
 unfold holdsB
 rw [← e0, ← e1, ← e2]
 cases K with
 | lin e hv hs =>
  have hs := sumB_inv hs
  have hd := rsum c c.vars row (by omega) (by omega) hr hs.2.1 hrow hs.2.2.1
  have ev : valL c.vars row = valsOf c row := rfl
  rw [ev] at hd
  obtain ⟨kind, vars, coefs, rel, const, nums⟩ := c
  dsimp only at *
  subst e
  simp [runW_fin, F_ref11_Holds, i_ref11_Holds, k0, hd]
 | prod e hv hs =>
  have hv := varsB_inv hv
  have g1 := gt 1 (by omega)
  have g2 := gt 2 (by omega)
  rw [← e1] at g1
  rw [← e2] at g2
  have hm := mul_small s0 s1
  have w : IntKind.i64.wrap (v0 * v1) = v0 * v1 := wrap64 (by omega) (by omega)
  have h3 : c.vars.length = 3 := by omega
  obtain ⟨kind, vars, coefs, rel, const, nums⟩ := c
  dsimp only at *
  subst e
  rw [h3] at k0
  simp [runW_fin, F_ref11_Holds, i_ref11_Holds, k0, hlen, h3, gx g0, gx g1, gx g2, w, ieq]
 | iff e hv hs =>
  have hv := varsB_inv hv
  have hs := sumB_inv hs
  have hd := rsum c (c.vars.drop 1) row (by rw [List.length_drop]; omega) (by rw [List.length_drop]; omega) (fun v hv => hr v (List.mem_of_mem_drop hv)) hs.2.1 hrow hs.2.2.1
  have ev : valL (c.vars.drop 1) row = (valsOf c row).drop 1 := by simp [valL, valsOf, List.map_drop]
  rw [ev] at hd
  simp only [intsV, List.map_drop] at hd
  have hge : (1 : Int) ≤ c.vars.length := by omega
  have hge' : 1 ≤ c.vars.length := by omega
  have hpos : 0 < c.vars.length := by omega
  obtain ⟨kind, vars, coefs, rel, const, nums⟩ := c
  dsimp only at *
  subst e
  have tk : (vars.map (V.int .i64)).take vars.length = vars.map (V.int .i64) := List.take_of_length_le (by simp)
  generalize relB rel (dotI coefs ((valsOf ⟨3, vars, coefs, rel, const, nums⟩ row).drop 1)) const = is at *
  simp only [List.drop_one] at hd
  by_cases c1 : v0 = 1
  ·subst c1
   cases is <;> simp [runW_fin, F_ref11_Holds, i_ref11_Holds, k0, hlen, hge, hge', hpos, gx g0, tk, hd]
  ·by_cases c2 : v0 = 0
   ·subst c2
    cases is <;> simp [runW_fin, F_ref11_Holds, i_ref11_Holds, k0, hlen, hge, hge', hpos, gx g0, tk, hd]
   ·cases is <;> simp [runW_fin, F_ref11_Holds, i_ref11_Holds, k0, hlen, hge, hge', hpos, gx g0, tk, hd, c1, c2, ieq, ine]
 | elt e hv hs =>
  have hv := varsB_inv hv
  have hs := bareB_inv hs
  have g1 := gt 1 (by omega)
  rw [← e1] at g1
  obtain ⟨fr', kl⟩ := re_loop c row (by omega) v0 v1 (by omega) (fun h => by have := (List.getElem?_eq_some_iff.1 g0).2; exact this) (fun h => by have := (List.getElem?_eq_some_iff.1 g1).2; exact this) c.nums.length 0 (by omega)
  simp only [Int.cast_ofNat_Int] at kl
  have hh : (decide (0 ≤ v0) && (decide (v0 < c.nums.length) && decide (c.nums.getD v0.toNat 0 = v1))) = if 0 ≤ v0 ∧ v0 < c.nums.length then decide (c.nums.getD v0.toNat 0 = v1) else false := by
   by_cases c1 : 0 ≤ v0 <;> by_cases c2 : v0 < c.nums.length <;> simp [c1, c2]
  rw [hh]
  by_cases cc : 0 ≤ v0 ∧ v0 < (c.nums.length : Int)
  ·rw [if_pos cc] at kl
   simp only [if_pos cc]
   obtain ⟨kind, vars, coefs, rel, const, nums⟩ := c
   dsimp only at *
   subst e
   generalize decide (nums.getD v0.toNat 0 = v1) = b at *
   simp [runW_fin, F_ref11_Holds, i_ref11_Holds, k0, kl]
  ·rw [if_neg cc] at kl
   simp only [if_neg cc]
   obtain ⟨kind, vars, coefs, rel, const, nums⟩ := c
   dsimp only at *
   subst e
   simp [runW_fin, F_ref11_Holds, i_ref11_Holds, k0, kl]
 | dif e hv hs =>
  obtain ⟨fr', kl⟩ := rd_loop c row (by omega) c.vars.length 0 (by omega)
  simp only [List.take_zero, List.drop_zero, Int.cast_ofNat_Int] at kl
  rw [← dupN_dec]
  obtain ⟨kind, vars, coefs, rel, const, nums⟩ := c
  dsimp only at *
  subst e
  rcases Bool.eq_false_or_eq_true (dupN [] (valsOf ⟨5, vars, coefs, rel, const, nums⟩ row)) with b | b <;> simp only [b, Bool.false_eq_true, if_true, if_false] at kl <;> rw [b]
  ·simp [runW_fin, F_ref11_Holds, i_ref11_Holds, k0, kl]
  ·simp [runW_fin, F_ref11_Holds, i_ref11_Holds, k0, kl]
 | tab e hv hs hm =>
  have hs := bareB_inv hs
  have hmod : c.nums.length % c.vars.length = 0 := by
   rw [Int.tmod_eq_emod_of_nonneg (by omega)] at hm
   omega
  have hdiv := Nat.div_add_mod c.nums.length c.vars.length
  rw [hmod, Nat.add_zero, Nat.mul_comm] at hdiv
  obtain ⟨fr', kl⟩ := rt_loop c row (by omega) h1 (by omega) (c.nums.length / c.vars.length) 0 (by rw [hdiv]; omega)
  simp only [List.drop_zero, Int.cast_ofNat_Int] at kl
  obtain ⟨kind, vars, coefs, rel, const, nums⟩ := c
  dsimp only at *
  subst e
  rcases Bool.eq_false_or_eq_true (tabN vars.length (valsOf ⟨6, vars, coefs, rel, const, nums⟩ row) (nums.length / vars.length) nums) with b | b <;> simp only [b, Bool.false_eq_true, if_true, if_false] at kl
  ·simp [runW_fin, F_ref11_Holds, i_ref11_Holds, k0, kl, b]
  ·simp [runW_fin, F_ref11_Holds, i_ref11_Holds, k0, kl, b]
theorem ra_loop (l : List Con) (row : List Int) (hl : l.length ≤ 150) (hk : ∀ c ∈ l, rightB c row.length = true) (hrow : ∀ x ∈ row, smallI x) (h : List Ob) : ∀ (k i : Nat), i + k = l.length →
  ∃ fr', evw C y0 i_ref11_All_l0 [(0, consV l), (1, intsV row), (5, iv i)] h = some (if ((l.drop i).all fun c => holdsB c row) = true then (.ext 0, fr', h) else (.ret, [(4, .bool false)], h)) := by
 intro k
 induction k with
 | zero =>
  intro i hi
  have : i = l.length := by omega
  subst this
  refine ⟨[(0, consV l), (1, intsV row), (5, iv l.length), (13, .bool false)], ?_⟩
  rw [r_ref11_All_0, List.drop_length]
  simp [b_ref11_All_0]
 | succ k ih =>
  intro i hi
  have hlt : i < l.length := by omega
  have hw := wrap_succ hlt (by omega)
  obtain ⟨fr', ih⟩ := ih (i + 1) (by omega)
  refine ⟨fr', ?_⟩
  simp only [Int.natCast_add, Int.cast_ofNat_Int] at ih
  have k1 := rHolds l[i] row (hk _ (List.getElem_mem hlt)) hrow
  rw [r_ref11_All_0, List.drop_eq_getElem_cons hlt, List.all_cons]
  rcases Bool.eq_false_or_eq_true (holdsB l[i] row) with e | e <;> rw [e] at k1 <;> simp only [e]
  ·simp only [Bool.true_and, ← ih]
   simp [b_ref11_All_0, hlt, k1, hw]
  ·simp [b_ref11_All_0, hlt, k1]
theorem rAll (l : List Con) (row : List Int) (hl : l.length ≤ 150) (hr : row.length ≤ 4611686018427387904) (hc : ∀ c ∈ l, c150 c) (h : List Ob) : acw C n_ref11_All [consV l, intsV row] h = some (.ret (.bool (allB l row)), h) := by
 refine acw_ex (v := .bool (allB l row)) (CT T_ref11_All) rfl rfl (fun _ => rfl) (by simp) ?_
 have k1 := rRight l row hl hr hc
 unfold allB
 rcases Bool.eq_false_or_eq_true (gRightB l row) with e | e
 ·obtain ⟨h1, h2⟩ := gRight_inv e
  obtain ⟨fr', k2⟩ := ra_loop l row hl h2 h1 [] l.length 0 (by omega)
  simp only [List.drop_zero, Int.cast_ofNat_Int] at k2
  rw [e] at k1 ⊢
  rcases Bool.eq_false_or_eq_true (l.all fun c => holdsB c row) with b | b <;> simp only [b, Bool.false_eq_true, if_true, if_false] at k2 <;> rw [b]
  ·simp [runW_fin, F_ref11_All, i_ref11_All, k1, k2]
  ·simp [runW_fin, F_ref11_All, i_ref11_All, k1, k2]
 ·rw [e] at k1 ⊢
  simp [runW_fin, F_ref11_All, i_ref11_All, k1]
end Go.RR.M
set_option linter.unusedVariables false
set_option linter.unusedSimpArgs false
set_option maxRecDepth 100000
namespace Go.RR
structure Nd where
 kind : Int
 pick : Int
 kids : List Int
 deriving DecidableEq, Inhabited
abbrev nodeV (n : Nd) : V := .agg [.int .i64 n.kind, .int .i64 n.pick, intsV n.kids]
abbrev treeV (t : List Nd) : V := .sl 3 (t.map nodeV)
/-- a tree, unfolded -/
inductive UT where
 | nd (k p : Int) (cs : List UT)
def unfF (t : List Nd) : Nat → Nat → UT
 | 0, _ => .nd 0 0 []
 | f + 1, i => match t[i]? with
  | some n => .nd n.kind n.pick (n.kids.map fun k => unfF t f k.toNat)
  | none => .nd 0 0 []
def unf (t : List Nd) (i : Nat) : UT := unfF t (i + 1) i
/-- kids stand ahead -/
def Ahd (t : List Nd) : Prop := ∀ i (h : i < t.length), ∀ k ∈ t[i].kids, 0 ≤ k ∧ k < i
theorem unfF_eq {t : List Nd} (ha : Ahd t) : ∀ (f i : Nat), i < f → unfF t f i = unf t i := by
 intro f
 induction f with
 | zero => intro i h; omega
 | succ f ih =>
  intro i h
  unfold unf
  rw [unfF, unfF]
  cases e : t[i]? with
  | none => rfl
  | some n =>
   simp only
   obtain ⟨hi, e2⟩ := List.getElem?_eq_some_iff.1 e
   congr 1
   apply List.map_congr_left
   intro k hk
   have := ha i hi k (by rw [e2]; exact hk)
   rw [ih k.toNat (by omega)]
   have h2 : k.toNat < i := by omega
   clear ih
   -- the same with less fuel
   have key : ∀ (f g j : Nat), j < f → j < g → unfF t f j = unfF t g j := by
    intro f
    induction f with
    | zero => intro g j h; omega
    | succ f ih =>
     intro g j h1 h2
     cases g with
     | zero => omega
     | succ g =>
      rw [unfF, unfF]
      cases e : t[j]? with
      | none => rfl
      | some n =>
       simp only
       obtain ⟨hj, e2⟩ := List.getElem?_eq_some_iff.1 e
       congr 1
       apply List.map_congr_left
       intro k hk
       have := ha j hj k (by rw [e2]; exact hk)
       exact ih g k.toNat (by omega) (by omega)
   exact key _ _ _ (by omega) h2
theorem unf_eq {t : List Nd} (ha : Ahd t) {i : Nat} (h : i < t.length) : unf t i = .nd t[i].kind t[i].pick (t[i].kids.map fun k => unf t k.toNat) := by
 unfold unf
 rw [unfF]
 simp only [List.getElem?_eq_getElem h]
 congr 1
 apply List.map_congr_left
 intro k hk
 have := ha i h k hk
 exact unfF_eq ha i k.toNat (by omega)
theorem Ahd.pre {t e : List Nd} (h : Ahd (t ++ e)) : Ahd t := fun i hi k hk => by
 have := h i (by rw [List.length_append]; omega) k (by rw [List.getElem_append_left hi]; exact hk)
 exact this
/-- nodes, no two of which are alike -/
structure Good (out : List Nd) : Prop where
 ahd : Ahd out
 nodup : ∀ i j (hi : i < out.length) (hj : j < out.length), out[i] = out[j] → i = j
theorem map_unf_inj {out : List Nd} {is js : List Int} (h : is.map (fun k => unf out k.toNat) = js.map (fun k => unf out k.toNat)) (hi : ∀ a ∈ is, ∀ b ∈ js, unf out a.toNat = unf out b.toNat → a = b) : is = js := by
 induction is generalizing js with
 | nil =>
  cases js with
  | nil => rfl
  | cons b js => simp at h
 | cons a is ih =>
  cases js with
  | nil => simp at h
  | cons b js =>
   simp only [List.map_cons, List.cons.injEq] at h
   rw [hi a (by simp) b (by simp) h.1, ih h.2 fun x hx y hy => hi x (by simp [hx]) y (by simp [hy])]
/-- no two of them are the same, unfolded -/
theorem Good.inj {out : List Nd} (g : Good out) : ∀ (n i j : Nat), i < n → j < n → (hi : i < out.length) → (hj : j < out.length) → unf out i = unf out j → i = j := by
 intro n
 induction n with
 | zero => intro i j h; omega
 | succ n ih =>
  intro i j hin hjn hi hj h
  rw [unf_eq g.ahd hi, unf_eq g.ahd hj] at h
  injection h with h1 h2 h3
  refine g.nodup i j hi hj ?_
  have hk : out[i].kids = out[j].kids := map_unf_inj h3 fun a ha b hb hab => by
   have ka := g.ahd i hi a ha
   have kb := g.ahd j hj b hb
   have := ih a.toNat b.toNat (by omega) (by omega) (by omega) (by omega) hab
   omega
  cases hx : out[i]
  cases hy : out[j]
  rw [hx, hy] at h1 h2 hk
  simp only at h1 h2 hk
  rw [h1, h2, hk]
theorem Good.nil : Good [] := ⟨fun i h => by simp at h, fun i j h => by simp at h⟩
end Go.RR
set_option linter.unusedVariables false
set_option linter.unusedSimpArgs false
set_option maxRecDepth 100000
set_option maxHeartbeats 4000000
namespace Go.RR
def fitsN (k p n : Int) : Bool := (decide (k = 0) && (decide (p = 0) && decide (n = 0))) || ((decide (k = 1) && (decide (0 ≤ p) && decide (p ≤ 63) && decide (n = 1))) || (decide (k = 2) && (decide (p = 0) && decide (1 ≤ n) && decide (n ≤ 64))))
theorem fits_len {k p : Int} {n : Nat} (h : fitsN k p n = true) : n ≤ 64 := by
 simp only [fitsN, Bool.or_eq_true, Bool.and_eq_true, decide_eq_true_eq] at h
 omega
def badK (i k : Int) : Bool := decide (k < 0) || decide (i ≤ k)
def nodeOK (i : Nat) (n : Nd) : Bool := fitsN n.kind n.pick n.kids.length && !n.kids.any (badK i)
def mayF : Nat → List Nd → Bool
 | _, [] => true
 | i, n :: r => nodeOK i n && mayF (i + 1) r
def mayT (t : List Nd) : Bool := decide (0 < t.length) && (decide (t.length ≤ 100000) && mayF 0 t)
end Go.RR
namespace Go.RR.M
open Go Go.RR
theorem tree_fits (k p n : Int) (h : List Ob) : acw C n_tree_fits [iv k, iv p, iv n] h = some (.ret (.bool (fitsN k p n)), h) := by
 refine acw_ex (v := .bool (fitsN k p n)) (CT T_tree_fits) rfl rfl (fun _ => rfl) (by simp) ?_
 by_cases c0 : k = 0
 ·subst c0
  by_cases c1 : p = 0 <;> by_cases c2 : n = 0 <;> simp [runW_fin, F_tree_fits, i_tree_fits, ieq, ine, fitsN, c1, c2]
 ·by_cases c1 : k = 1
  ·subst c1
   by_cases d1 : 0 ≤ p <;> by_cases d2 : p ≤ 63 <;> by_cases d3 : n = 1 <;> simp [runW_fin, F_tree_fits, i_tree_fits, ieq, ine, fitsN, d1, d2, d3]
  ·by_cases c2 : k = 2
   ·subst c2
    by_cases d1 : p = 0 <;> by_cases d2 : 1 ≤ n <;> by_cases d3 : n ≤ 64 <;> simp [runW_fin, F_tree_fits, i_tree_fits, ieq, ine, fitsN, d1, d2, d3]
   ·simp [runW_fin, F_tree_fits, i_tree_fits, ieq, ine, fitsN, c0, c1, c2]
theorem tree_May_1 (k i : Int) (h : List Ob) : acw C n_tree_May_1 [iv k, .pin (iv i) 0] h = some (.ret (.bool (badK i k)), h) := by
 refine acw_ex (v := .bool (badK i k)) (CT T_tree_May_1) rfl rfl (fun _ => rfl) (by simp) ?_
 by_cases c0 : k < 0 <;> by_cases c1 : i ≤ k <;> simp [runW_fin, F_tree_May_1, i_tree_May_1, badK, c0, c1]
theorem contains_kids (i : Int) (l : List Int) (hl : l.length ≤ 4611686018427387904) {a : Nat} {h : List Ob} (e : h[a]? = some (.row 1 [iv i])) : acw C n_slices_ContainsFunc_sint_int [intsV l, .fn (.func n_tree_May_1) [] [.ptr a 0 0 1]] h = some (.ret (.bool (l.any (badK i))), h) :=
 containsFunc (enc := V.int .i64) (ag := false) (sz := 1) (g := n_tree_May_1) (first := []) (cap := [.pin (iv i) 0]) (CT T_slices_IndexFunc_sint_int) (CT T_slices_ContainsFunc_sint_int) l hl (fun _ _ => elt_int) (frz_box e rfl) (fun _ => rfl) (fun a _ => tree_May_1 a i [])
theorem may_loop (t : List Nd) (hn : t.length ≤ 4611686018427387904) : ∀ (d i : Nat) (h : List Ob), i + d = t.length →
  ∃ fr' h', evw C y0 i_tree_May_l0 [(13, treeV t), (14, iv t.length), (15, iv i)] h = some (if mayF i (t.drop i) = true then (.ext 0, fr', h') else (.ret, [(2, .bool false)], h'))
 | 0, i, h, e => by
  obtain rfl : i = t.length := by omega
  rw [r_tree_May_0]
  refine ⟨[(13, treeV t), (14, iv t.length), (15, iv t.length), (16, .bool false)], h, ?_⟩
  simp [b_tree_May_0, mayF]
 | d + 1, i, h, e => by
  have hlt : i < t.length := by omega
  have h2 : (i : Int) < t.length := by omega
  have h3 : t[i]? = some t[i] := by simp [hlt]
  have hw := wrap_succ (i := i) (n := t.length) hlt (by omega)
  rw [r_tree_May_0, List.drop_eq_getElem_cons hlt]
  simp only [mayF]
  generalize t[i] = nd at *
  have kf := tree_fits nd.kind nd.pick nd.kids.length
  cases c1 : fitsN nd.kind nd.pick nd.kids.length with
  | false =>
   rw [c1] at kf
   refine ⟨[], h ++ [.row 1 [iv i], .row 3 [nodeV nd]], ?_⟩
   simp [b_tree_May_0, h2, h3, kf, nodeOK, c1]
  | true =>
   rw [c1] at kf
   have hks : nd.kids.length ≤ 4611686018427387904 := by have := fits_len c1; omega
   have kc := contains_kids (i : Int) nd.kids hks (a := h.length) (h := h ++ [.row 1 [iv i], .row 3 [nodeV nd]]) (by simp)
   cases c2 : nd.kids.any (badK i) with
   | true =>
    rw [c2] at kc
    refine ⟨[], h ++ [.row 1 [iv i], .row 3 [nodeV nd]], ?_⟩
    simp [b_tree_May_0, h2, h3, kf, nodeOK, c1, c2, kc]
   | false =>
    rw [c2] at kc
    obtain ⟨fr', h', ih⟩ := may_loop t hn d (i + 1) (h ++ [.row 1 [iv i], .row 3 [nodeV nd]]) (by omega)
    simp only [Int.natCast_add, Int.cast_ofNat_Int] at ih
    refine ⟨fr', h', ?_⟩
    have e0 : nodeOK i nd = true := by simp only [nodeOK, c1, c2]; rfl
    simp only [e0, Bool.true_and]
    rw [← ih]
    simp [b_tree_May_0, h2, h3, kf, kc, hw]
theorem tree_May (t : List Nd) (hn : t.length ≤ 4611686018427387904) (h : List Ob) : acw C n_tree_May [treeV t] h = some (.ret (.bool (mayT t)), h) := by
 refine acw_ex (v := .bool (mayT t)) (CT T_tree_May) rfl rfl (fun _ => rfl) (by simp) ?_
 by_cases c1 : t = []
 ·subst c1
  simp [runW_fin, F_tree_May, i_tree_May, mayT]
 ·have c1' : 0 < t.length := List.length_pos_iff.2 c1
  have c2' : ¬ t.length = 0 := by omega
  have c1i : ¬ ((t.length : Int) = 0) := by omega
  by_cases c3 : t.length ≤ 100000
  ·have c3' : ¬ (100000 < (t.length : Int)) := by omega
   have c3n : ¬ (100000 < t.length) := by omega
   obtain ⟨fr', h', lp⟩ := may_loop t hn t.length 0 [] (by omega)
   simp only [List.drop_zero, Int.cast_ofNat_Int] at lp
   cases c4 : mayF 0 t with
   | true =>
    simp only [c4, if_true] at lp
    simp [runW_fin, F_tree_May, i_tree_May, mayT, ieq, c1, c1', c2', c1i, c3, c3', c3n, c4, lp]
   | false =>
    simp only [c4, Bool.false_eq_true, if_false] at lp
    simp [runW_fin, F_tree_May, i_tree_May, mayT, ieq, c1, c1', c2', c1i, c3, c3', c3n, c4, lp]
  ·have c3' : 100000 < (t.length : Int) := by omega
   have c3n : 100000 < t.length := by omega
   simp [runW_fin, F_tree_May, i_tree_May, mayT, ieq, c1, c1', c2', c1i, c3, c3', c3n]
end Go.RR.M
set_option linter.unusedVariables false
set_option linter.unusedSimpArgs false
set_option maxRecDepth 100000
set_option maxHeartbeats 4000000
namespace Go.RR.M
open Go Go.RR
end Go.RR.M
set_option linter.unusedVariables false
set_option linter.unusedSimpArgs false
set_option maxRecDepth 100000
set_option maxHeartbeats 4000000
namespace Go.RR
theorem Nd.ext' {a b : Nd} (h1 : a.kind = b.kind) (h2 : a.pick = b.pick) (h3 : a.kids = b.kids) : a = b := by
 cases a; cases b; simp only at h1 h2 h3; rw [h1, h2, h3]
end Go.RR
namespace Go.RR.M
open Go Go.RR
end Go.RR.M
set_option linter.unusedVariables false
set_option linter.unusedSimpArgs false
set_option maxRecDepth 100000
set_option maxHeartbeats 4000000
namespace Go.RR
mutual
def foldU (G : List Int → Int) : UT → Int
 | .nd _ _ cs => G (foldL G cs)
def foldL (G : List Int → Int) : List UT → List Int
 | [] => []
 | u :: r => foldU G u :: foldL G r
end
theorem mayF_at : ∀ (t : List Nd) (i : Nat), mayF i t = true → ∀ j (h : j < t.length), nodeOK (i + j) t[j] = true
 | [], i, _, j, h => by simp at h
 | n :: r, i, e, j, h => by
  simp only [mayF, Bool.and_eq_true] at e
  cases j with
  | zero => exact e.1
  | succ j =>
   have := mayF_at r (i + 1) e.2 j (by simpa using h)
   rw [show i + (j + 1) = i + 1 + j by omega]
   exact this
theorem mayF_of : ∀ (t : List Nd) (i : Nat), (∀ j (h : j < t.length), nodeOK (i + j) t[j] = true) → mayF i t = true
 | [], i, _ => rfl
 | n :: r, i, e => by
  simp only [mayF, Bool.and_eq_true]
  refine ⟨e 0 (by simp), mayF_of r (i + 1) fun j h => ?_⟩
  have := e (j + 1) (by simpa using h)
  rw [show i + 1 + j = i + (j + 1) by omega]
  exact this
theorem mayT_iff {t : List Nd} : mayT t = true ↔ 0 < t.length ∧ t.length ≤ 100000 ∧ ∀ j (h : j < t.length), nodeOK j t[j] = true := by
 simp only [mayT, Bool.and_eq_true, decide_eq_true_eq]
 constructor
 ·rintro ⟨h1, h2, h3⟩
  exact ⟨h1, h2, fun j h => by have := mayF_at t 0 h3 j h; rwa [Nat.zero_add] at this⟩
 ·rintro ⟨h1, h2, h3⟩
  exact ⟨h1, h2, mayF_of t 0 fun j h => by rw [Nat.zero_add]; exact h3 j h⟩
theorem nodeOK_iff {i : Nat} {n : Nd} : nodeOK i n = true ↔ fitsN n.kind n.pick n.kids.length = true ∧ ∀ k ∈ n.kids, 0 ≤ k ∧ k < i := by
 simp only [nodeOK, Bool.and_eq_true, Bool.not_eq_true', List.any_eq_false, badK, Bool.or_eq_true, decide_eq_true_eq]
 constructor
 ·rintro ⟨h1, h2⟩
  exact ⟨h1, fun k hk => by have := h2 k hk; omega⟩
 ·rintro ⟨h1, h2⟩
  exact ⟨h1, fun k hk => by have := h2 k hk; omega⟩
theorem mayT_len {t : List Nd} (h : mayT t = true) : 0 < t.length ∧ t.length ≤ 100000 := ⟨(mayT_iff.1 h).1, (mayT_iff.1 h).2.1⟩
theorem mayT_ahd {t : List Nd} (h : mayT t = true) : Ahd t := fun i hi => (nodeOK_iff.1 ((mayT_iff.1 h).2.2 i hi)).2
theorem mayT_fits {t : List Nd} (h : mayT t = true) : ∀ i (hi : i < t.length), fitsN t[i].kind t[i].pick t[i].kids.length = true := fun i hi => (nodeOK_iff.1 ((mayT_iff.1 h).2.2 i hi)).1
/-- what the first nodes have -/
def vals (G : List Int → Int) (t : List Nd) (i : Nat) : List V := (List.range i).map fun j => iv (foldU G (unf t j))
end Go.RR
namespace Go.RR.M
open Go Go.RR
end Go.RR.M
set_option linter.unusedVariables false
namespace Go.RR
open Go
abbrev nodeSh : Sh := .st (.cons (.int .i64) (.cons (.int .i64) (.cons intsSh .nil)))
theorem has_node {vs : List V} (h : Has nodeSh vs) : ∃ s : Nd, nodeSh.mk vs = nodeV s := by
 unfold nodeSh at h
 rw [Has] at h
 simp only [HasF] at h
 obtain ⟨a1, b1, rfl, h1, a2, b2, rfl, h2, a3, b3, rfl, h3, rfl⟩ := h
 obtain ⟨k, rfl, -⟩ := has_int h1
 obtain ⟨p, rfl, -⟩ := has_int h2
 obtain ⟨l, rfl, -⟩ := has_ints h3
 exact ⟨⟨k, p, l⟩, rfl⟩
theorem has_tree {vs : List V} (h : Has (.sl nodeSh) vs) : ∃ t : List Nd, vs = [treeV t] ∧ t.length ≤ maxLen :=
 has_sl (enc := nodeV) (e := nodeSh) (fun cs hc => has_node hc) h
end Go.RR
set_option linter.unusedVariables false
set_option linter.unusedSimpArgs false
set_option maxRecDepth 100000
namespace Go.RR.M
open Go Go.RR
def atS : List Sp → Int → Int × Bool
 | [], _ => (0, false)
 | s :: r, k => if k < s.hi - s.lo + 1 then (s.lo + k, true) else atS r (k - (s.hi - s.lo + 1))
/-- numbers, one behind another -/
def rng : Int → Nat → List Int
 | _, 0 => []
 | v, n + 1 => v :: rng (v + 1) n
theorem rng_len : ∀ (n : Nat) (v : Int), (rng v n).length = n
 | 0, _ => rfl
 | n + 1, v => by simp [rng, rng_len n]
theorem rng_get : ∀ (n : Nat) (v : Int) (k : Nat) (h : k < (rng v n).length), (rng v n)[k] = v + k
 | 0, v, k, h => by simp [rng] at h
 | n + 1, v, 0, h => by simp [rng]
 | n + 1, v, k + 1, h => by
  simp only [rng, List.getElem_cons_succ]
  rw [rng_get n (v + 1) k]
  omega
def valS (l : List Sp) : List Int := l.flatMap fun s => rng s.lo (s.hi - s.lo + 1).toNat
theorem valS_cons (s : Sp) (r : List Sp) : valS (s :: r) = rng s.lo (s.hi - s.lo + 1).toNat ++ valS r := rfl
end Go.RR.M
set_option linter.unusedVariables false
set_option linter.unusedSimpArgs false
set_option maxRecDepth 100000
set_option maxHeartbeats 4000000
namespace Go.RR.M
open Go Go.RR
theorem at_loop (l : List Sp) (hl : l.length ≤ 1000000) (hb : ∀ s ∈ l, s.lo ≤ s.hi ∧ -1048576 ≤ s.lo ∧ s.hi ≤ 1048576) : ∀ (d i : Nat) (k : Int) (h : List Ob), i + d = l.length → -2199023255552 ≤ k ∧ k ≤ 2199023255552 → 0 ≤ k → k < spS (l.drop i) →
  ∃ h', evw C y0 i_spans_At_l0 [(1, iv k), (17, spsV l), (18, iv l.length), (19, iv i)] h = some (.ret, [(4, iv (atS (l.drop i) k).1), (5, .bool (atS (l.drop i) k).2)], h')
 | 0, i, k, h, e, hk, h0, h1 => by
  obtain rfl : i = l.length := by omega
  rw [List.drop_length] at h1
  simp only [spS] at h1
  omega
 | d + 1, i, k, h, e, hk, h0, h1 => by
  have hlt : i < l.length := by omega
  have h2 : (i : Int) < l.length := by omega
  have h3 : l[i]? = some l[i] := by simp [hlt]
  have hw := wrap_succ (i := i) (n := l.length) hlt (by omega)
  have hs := hb l[i] (List.getElem_mem hlt)
  rw [List.drop_eq_getElem_cons hlt] at h1 ⊢
  simp only [spS] at h1
  have w1 : IntKind.i64.wrap (l[i].hi - l[i].lo) = l[i].hi - l[i].lo := wrap64 (by omega) (by omega)
  have w2 : IntKind.i64.wrap (l[i].hi - l[i].lo + 1) = l[i].hi - l[i].lo + 1 := wrap64 (by omega) (by omega)
  by_cases c : k < l[i].hi - l[i].lo + 1
  ·have w3 : IntKind.i64.wrap (l[i].lo + k) = l[i].lo + k := wrap64 (by omega) (by omega)
   refine ⟨h ++ [.row 2 [spV l[i]]], ?_⟩
   rw [r_spans_At_0]
   unfold atS
   rw [if_pos c]
   simp [b_spans_At_0, h2, h3, w1, w2, w3, c]
  ·have w3 : IntKind.i64.wrap (k - (l[i].hi - l[i].lo + 1)) = k - (l[i].hi - l[i].lo + 1) := wrap64 (by omega) (by omega)
   obtain ⟨h', ih⟩ := at_loop l hl hb d (i + 1) (k - (l[i].hi - l[i].lo + 1)) (h ++ [.row 2 [spV l[i]]]) (by omega) (by omega) (by omega) (by omega)
   refine ⟨h', ?_⟩
   unfold atS
   rw [if_neg c, ← ih, r_spans_At_0]
   simp [b_spans_At_0, h2, h3, w1, w2, w3, c, hw]
/-- the number at a place -/
def atV (l : List Sp) (k : Int) : Int × Bool := if k < 0 ∨ spN l ≤ k then (0, false) else atS l k
theorem spans_At (l : List Sp) (hl : l.length ≤ 1000000) (k : Int) (h : List Ob) : acw C n_spans_At [spsV l, iv k] h = some (.ret (.tup [iv (atV l k).1, .bool (atV l k).2]), h) := by
 have k1 := spans_Size l (by omega)
 by_cases c1 : k < 0
 ·refine acw_ex (v := .tup [iv (atV l k).1, .bool (atV l k).2]) (CT T_spans_At) rfl rfl (fun _ => rfl) (by simp) ?_
  simp [runW_fin, F_spans_At, i_spans_At, c1, atV]
 by_cases c2 : spN l ≤ k
 ·refine acw_ex (v := .tup [iv (atV l k).1, .bool (atV l k).2]) (CT T_spans_At) rfl rfl (fun _ => rfl) (by simp) ?_
  simp [runW_fin, F_spans_At, i_spans_At, c1, c2, atV, k1]
 have hr : spR none l = true := by
  cases e : spR none l with
  | true => rfl
  | false => simp [spN, e] at c2; omega
 have hn : spN l = spS l := by simp [spN, hr]
 have ht := spS_top hr
 obtain ⟨h', ih⟩ := at_loop l hl (spR_all hr) l.length 0 k [] (by omega) (by omega) (by omega) (by rw [List.drop_zero]; omega)
 rw [List.drop_zero] at ih
 simp only [Int.cast_ofNat_Int] at ih
 refine acw_ex (v := .tup [iv (atV l k).1, .bool (atV l k).2]) (CT T_spans_At) rfl rfl (fun _ => rfl) (by simp) ?_
 have e : atV l k = atS l k := by unfold atV; rw [if_neg (by omega)]
 rw [e]
 exact ⟨h', by simp [runW_fin, F_spans_At, i_spans_At, c1, c2, k1, ih]⟩
end Go.RR.M
set_option linter.unusedVariables false
set_option linter.unusedSimpArgs false
set_option maxRecDepth 100000
set_option maxHeartbeats 4000000
namespace Go.RR.M
open Go Go.RR
end Go.RR.M
set_option linter.unusedVariables false
set_option linter.unusedSimpArgs false
set_option maxRecDepth 100000
set_option maxHeartbeats 4000000
namespace Go.RR.M
open Go Go.RR
theorem rv_l0 (h : List Ob) (l : List Sp) (i : Nat) (hlt : i < l.length) (hs : -1048576 ≤ l[i].lo ∧ l[i].hi ≤ 1048576) : ∀ (d : Nat) (v : Int) (acc : List Int), v + d = l[i].hi + 1 → -1048576 ≤ v → acc.length + d ≤ 10000000 →
  evw C y0 i_ref03_Values_l0 [(0, spsV l), (3, .own h.length 0 acc.length acc.length), (4, iv i), (5, iv v)] (h ++ [.row 1 (acc.map (V.int .i64))]) =
   some (.ext 2, [(0, spsV l), (3, .own h.length 0 (acc ++ rng v d).length (acc ++ rng v d).length), (4, iv i), (5, iv (l[i].hi + 1)), (24, .bool false)], h ++ [.row 1 ((acc ++ rng v d).map (V.int .i64))])
 | 0, v, acc, e, hv, ha => by
  have e' : v = l[i].hi + 1 := by omega
  subst e'
  rw [r_ref03_Values_0]
  have h1 : ¬ (l[i].hi + 1 ≤ l[i].hi) := by omega
  have hi : l[i]? = some l[i] := by simp [hlt]
  simp [b_ref03_Values_0, hi, h1, hlt, rng]
 | d + 1, v, acc, e, hv, ha => by
  have h1 : v ≤ l[i].hi := by omega
  have hi : l[i]? = some l[i] := by simp [hlt]
  have ih := rv_l0 h l i hlt hs d (v + 1) (acc ++ [v]) (by omega) (by omega) (by simp; omega)
  have hw : IntKind.i64.wrap (v + 1) = v + 1 := wrap64 (by omega) (by omega)
  have k4 : bsfL (.int .i64 0) [iv v] = some (.sl 1 [iv v]) := rfl
  have k5 : ∀ nid, appV nid (h ++ [.row 1 (acc.map (V.int .i64))]) 1 8 (.own h.length 0 acc.length acc.length) (.sl 1 [iv v]) = some (.own h.length 0 (acc.length + 1) (acc.length + 1), some (h.length, .row 1 (acc.map (V.int .i64) ++ [iv v]))) := fun nid => appV_own (by simp) (by simp) rfl (by simp) (by simp) (by omega) (by omega)
  rw [r_ref03_Values_0, rng, show acc ++ v :: rng (v + 1) d = acc ++ [v] ++ rng (v + 1) d by simp, ← ih]
  simp [b_ref03_Values_0, hi, h1, hlt, k4, k5, hw]
theorem valS_len : ∀ {l : List Sp}, (∀ s ∈ l, s.lo ≤ s.hi ∧ -1048576 ≤ s.lo ∧ s.hi ≤ 1048576) → ((valS l).length : Int) = spS l
 | [], _ => rfl
 | s :: r, h => by
  have h1 := h s (by simp)
  have ih := valS_len (l := r) fun x hx => h x (by simp [hx])
  rw [valS_cons, List.length_append, rng_len]
  simp only [spS]
  omega
theorem rv_l1 (h : List Ob) (l : List Sp) (hl : l.length ≤ 1000000) (hb : ∀ s ∈ l, s.lo ≤ s.hi ∧ -1048576 ≤ s.lo ∧ s.hi ≤ 1048576) : ∀ (d i : Nat) (acc : List Int), i + d = l.length → acc.length + spS (l.drop i) ≤ 10000000 →
  evw C y0 i_ref03_Values_l1 [(0, spsV l), (3, .own h.length 0 acc.length acc.length), (4, iv i)] (h ++ [.row 1 (acc.map (V.int .i64))]) =
   some (.ext 0, [(0, spsV l), (3, .own h.length 0 (acc ++ valS (l.drop i)).length (acc ++ valS (l.drop i)).length), (4, iv l.length), (10, .bool false)], h ++ [.row 1 ((acc ++ valS (l.drop i)).map (V.int .i64))])
 | 0, i, acc, e, ha => by
  obtain rfl : i = l.length := by omega
  rw [List.drop_length, r_ref03_Values_1]
  simp [b_ref03_Values_1, valS]
 | d + 1, i, acc, e, ha => by
  have hlt : i < l.length := by omega
  have h2 : (i : Int) < l.length := by omega
  have h3 : l[i]? = some l[i] := by simp [hlt]
  have hw := wrap_succ (i := i) (n := l.length) hlt (by omega)
  have hs := hb l[i] (List.getElem_mem hlt)
  have hnn : 0 ≤ spS (l.drop (i + 1)) := spS_nn fun s hs => hb s (List.mem_of_mem_drop hs)
  rw [List.drop_eq_getElem_cons hlt] at ha ⊢
  simp only [spS] at ha
  have h4 := rv_l0 h l i hlt ⟨hs.2.1, hs.2.2⟩ (l[i].hi - l[i].lo + 1).toNat l[i].lo acc (by omega) hs.2.1 (by omega)
  have ih := rv_l1 h l hl hb d (i + 1) (acc ++ rng l[i].lo (l[i].hi - l[i].lo + 1).toNat) (by omega) (by rw [List.length_append, rng_len]; omega)
  simp only [Int.natCast_add, Int.cast_ofNat_Int] at ih
  rw [valS_cons, ← List.append_assoc, ← ih, r_ref03_Values_1]
  simp [b_ref03_Values_1, h2, h3, h4, hw]
end Go.RR.M
set_option linter.unusedVariables false
set_option linter.unusedSimpArgs false
set_option maxRecDepth 100000
set_option maxHeartbeats 4000000
namespace Go.RR.M
open Go Go.RR
theorem ref03_Values (l : List Sp) (hl : l.length ≤ 1000000) (hr : spR none l = true) (h : List Ob) : acw C n_ref03_Values [spsV l] h = some (.ret (.own h.length 0 (valS l).length (valS l).length), h ++ [.row 1 ((valS l).map (V.int .i64))]) := by
 have ht := spS_top hr
 have ih := rv_l1 h l hl (spR_all hr) l.length 0 [] (by omega) (by rw [List.drop_zero]; simp; omega)
 rw [List.drop_zero, List.nil_append] at ih
 simp only [List.length_nil, List.map_nil, Int.cast_ofNat_Int] at ih
 obtain ⟨R, hR⟩ : ∃ R, R = valS l := ⟨_, rfl⟩
 rw [← hR] at ih ⊢
 rw [acw_hm (CT T_ref03_Values) rfl]
 simp [runW_fin, F_ref03_Values, i_ref03_Values, ih]
end Go.RR.M
set_option linter.unusedVariables false
set_option linter.unusedSimpArgs false
set_option maxRecDepth 100000
namespace Go.RR.M
open Go Go.RR
/-- each number stands at its place -/
theorem atS_val : ∀ {l : List Sp} (k : Nat) (h : k < (valS l).length), (∀ s ∈ l, s.lo ≤ s.hi ∧ -1048576 ≤ s.lo ∧ s.hi ≤ 1048576) → atS l k = ((valS l)[k], true)
 | [], k, h, _ => by simp [valS] at h
 | s :: r, k, h, hb => by
  have hs := hb s (by simp)
  have hb' : ∀ s ∈ r, s.lo ≤ s.hi ∧ -1048576 ≤ s.lo ∧ s.hi ≤ 1048576 := fun x hx => hb x (by simp [hx])
  have hl : (valS (s :: r)).length = (s.hi - s.lo + 1).toNat + (valS r).length := by rw [valS_cons, List.length_append, rng_len]
  unfold atS
  by_cases c : (k : Int) < s.hi - s.lo + 1
  ·rw [if_pos c]
   have h1 : k < (rng s.lo (s.hi - s.lo + 1).toNat).length := by rw [rng_len]; omega
   congr 1
   simp only [valS_cons]
   rw [List.getElem_append_left h1, rng_get _ _ _ h1]
  ·rw [if_neg c]
   have h1 : (rng s.lo (s.hi - s.lo + 1).toNat).length ≤ k := by rw [rng_len]; omega
   have h2 : k - (s.hi - s.lo + 1).toNat < (valS r).length := by omega
   have ih := atS_val (l := r) (k - (s.hi - s.lo + 1).toNat) h2 hb'
   rw [show (k : Int) - (s.hi - s.lo + 1) = ((k - (s.hi - s.lo + 1).toNat : Nat) : Int) by omega, ih]
   congr 1
   simp only [valS_cons]
   rw [List.getElem_append_right h1]
   congr 1
   rw [rng_len]
end Go.RR.M
