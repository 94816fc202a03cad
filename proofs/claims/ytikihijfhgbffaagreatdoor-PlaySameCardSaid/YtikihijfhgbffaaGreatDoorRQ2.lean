/- Sums of small numbers. -/
import Derived.Test.YtikihijfhgbffaaGreatDoorRQ1
import Derived.Test.YtikihijfhgbffaaGreatDoorR5
import Derived.Lib.ItoaLen
set_option linter.unusedVariables false
set_option linter.unusedSimpArgs false
set_option linter.unusedVariables false
set_option linter.unusedSimpArgs false
set_option maxRecDepth 100000
namespace Go.RR
theorem wrapU_neg {n : Int} (h0 : n < 0) (h1 : -18446744073709551616 ≤ n) : IntKind.u64.wrap n = n + 18446744073709551616 := by
 unfold IntKind.wrap
 simp [IntKind.bits, IntKind.signed]
 omega
def relB (r a b : Int) : Bool := if r = 0 then decide (a = b) else if r = 1 then !decide (a = b) else if r = 2 then decide (a < b) else if r = 3 then decide (a ≤ b) else if r = 4 then decide (b < a) else if r = 5 then decide (b ≤ a) else false
def dotI : List Int → List Int → Int
 | a :: r, b :: s => a * b + dotI r s
 | _, _ => 0
def smallI (n : Int) : Prop := -1048576 ≤ n ∧ n ≤ 1048576
theorem mul_small {a b : Int} (ha : smallI a) (hb : smallI b) : -1099511627776 ≤ a * b ∧ a * b ≤ 1099511627776 := by
 obtain ⟨a1, a2⟩ := ha
 obtain ⟨b1, b2⟩ := hb
 constructor
 ·rcases Int.le_total 0 a with h | h
  ·have h1 : a * (-1048576) ≤ a * b := Int.mul_le_mul_of_nonneg_left b1 h
   omega
  ·have h1 : a * 1048576 ≤ a * b := Int.mul_le_mul_of_nonpos_left h b2
   omega
 ·rcases Int.le_total 0 a with h | h
  ·have h1 : a * b ≤ a * 1048576 := Int.mul_le_mul_of_nonneg_left b2 h
   omega
  ·have h1 : a * b ≤ a * (-1048576) := Int.mul_le_mul_of_nonpos_left h b1
   omega
end Go.RR
namespace Go.RR.M
open Go Go.RR
theorem sums_size (a : Int) (ha : smallI a) (h : List Ob) : acw C n_sums_size [iv a] h = some (.ret (.int .u64 (if a < 0 then -a else a)), h) := by
 obtain ⟨h1, h2⟩ := ha
 refine acw_ex (v := .int .u64 (if a < 0 then -a else a)) (CT T_sums_size) rfl rfl (fun _ => rfl) (by simp) ?_
 by_cases c : a < 0
 ·have w1 := wrapU_neg c (by omega)
  have w2 : IntKind.u64.wrap (-(a + 18446744073709551616)) = -a := by
   rw [wrapU_neg (by omega) (by omega)]; omega
  simp [runW_fin, F_sums_size, i_sums_size, c, w1, w2]
 ·have w1 := wrapU (n := a) (by omega) (by omega)
  simp [runW_fin, F_sums_size, i_sums_size, c, w1]
theorem mul64 (x y : Int) (hx : 0 ≤ x ∧ x ≤ 1048576) (hy : 0 ≤ y ∧ y ≤ 1048576) (h : List Ob) : acw C n_math_bits_Mul64 [.int .u64 x, .int .u64 y] h = some (.ret (.tup [.int .u64 0, .int .u64 (x * y)]), h) := by
 have hm := mul_small (a := x) (b := y) ⟨by omega, hx.2⟩ ⟨by omega, hy.2⟩
 have h0 : 0 ≤ x * y := Int.mul_nonneg hx.1 hy.1
 refine acw_S (a2 := [.int .u64 x, .int .u64 y]) (v := .tup [.int .u64 0, .int .u64 (x * y)]) rfl rfl rfl ?_ (by simp)
 have e1 : x * y / 18446744073709551616 = 0 := Int.ediv_eq_zero_of_lt h0 (by omega)
 have e2 : x * y % 18446744073709551616 = x * y := Int.emod_eq_of_lt h0 (by omega)
 have h3 : x < 18446744073709551616 := by omega
 have h4 : y < 18446744073709551616 := by omega
 simp [C, S, n_math_bits_Mul64, n_slices_Clone_sapi_Span_api_Span, n_stringslite_Index, hx.1, hy.1, h3, h4, e1, e2]
theorem sums_Mul (a b : Int) (ha : smallI a) (hb : smallI b) (h : List Ob) : acw C n_sums_Mul [iv a, iv b] h = some (.ret (.tup [iv (a * b), iv 0]), h) := by
 have k1 := sums_size a ha
 have k2 := sums_size b hb
 have hm := mul_small ha hb
 obtain ⟨a1, a2⟩ := ha
 obtain ⟨b1, b2⟩ := hb
 refine acw_ex (v := .tup [iv (a * b), iv 0]) (CT T_sums_Mul) rfl rfl (fun _ => rfl) (by simp) ?_
 by_cases ca : a < 0 <;> by_cases cb : b < 0 <;> simp only [ca, cb, if_true, if_false] at k1 k2
 ·have k3 := mul64 (-a) (-b) (by omega) (by omega)
  rw [Int.neg_mul_neg] at k3
  have h0 : 0 ≤ a * b := by rw [← Int.neg_mul_neg]; exact Int.mul_nonneg (by omega) (by omega)
  have w1 : IntKind.i64.wrap (a * b) = a * b := wrap64 (by omega) (by omega)
  have h1 : a * b < 9223372036854775808 := by omega
  simp [runW_fin, F_sums_Mul, i_sums_Mul, ca, cb, k1, k2, k3, w1, h1]
 ·have k3 := mul64 (-a) b (by omega) (by omega)
  rw [Int.neg_mul] at k3
  have h0 : 0 ≤ -(a * b) := by rw [← Int.neg_mul]; exact Int.mul_nonneg (by omega) (by omega)
  have w1 : IntKind.i64.wrap (-(a * b)) = -(a * b) := wrap64 (by omega) (by omega)
  have w2 : IntKind.i64.wrap (a * b) = a * b := wrap64 (by omega) (by omega)
  have h1 : -(a * b) < 9223372036854775808 := by omega
  simp [runW_fin, F_sums_Mul, i_sums_Mul, ca, cb, k1, k2, k3, w1, w2, h1]
 ·have k3 := mul64 a (-b) (by omega) (by omega)
  rw [Int.mul_neg] at k3
  have h0 : 0 ≤ -(a * b) := by rw [← Int.mul_neg]; exact Int.mul_nonneg (by omega) (by omega)
  have w1 : IntKind.i64.wrap (-(a * b)) = -(a * b) := wrap64 (by omega) (by omega)
  have w2 : IntKind.i64.wrap (a * b) = a * b := wrap64 (by omega) (by omega)
  have h1 : -(a * b) < 9223372036854775808 := by omega
  simp [runW_fin, F_sums_Mul, i_sums_Mul, ca, cb, k1, k2, k3, w1, w2, h1]
 ·have k3 := mul64 a b (by omega) (by omega)
  have h0 : 0 ≤ a * b := Int.mul_nonneg (by omega) (by omega)
  have w1 : IntKind.i64.wrap (a * b) = a * b := wrap64 (by omega) (by omega)
  have h1 : a * b < 9223372036854775808 := by omega
  simp [runW_fin, F_sums_Mul, i_sums_Mul, ca, cb, k1, k2, k3, w1, h1]
theorem sums_Add (a b : Int) (ha : -4611686018427387904 ≤ a ∧ a ≤ 4611686018427387903) (hb : -4611686018427387904 ≤ b ∧ b ≤ 4611686018427387903) (h : List Ob) : acw C n_sums_Add [iv a, iv b] h = some (.ret (.tup [iv (a + b), iv 0]), h) := by
 refine acw_ex (v := .tup [iv (a + b), iv 0]) (CT T_sums_Add) rfl rfl (fun _ => rfl) (by simp) ?_
 have w1 : IntKind.i64.wrap (a + b) = a + b := wrap64 (by omega) (by omega)
 by_cases ca : a < 0 <;> by_cases cb : b < 0
 ·have c3 : a + b < 0 := by omega
  simp [runW_fin, F_sums_Add, i_sums_Add, ca, cb, c3, w1]
 ·simp [runW_fin, F_sums_Add, i_sums_Add, ca, cb, w1]
 ·simp [runW_fin, F_sums_Add, i_sums_Add, ca, cb, w1]
 ·have c3 : ¬ a + b < 0 := by omega
  simp [runW_fin, F_sums_Add, i_sums_Add, ca, cb, c3, w1]
theorem dot_loop (l m : List Int) (hlm : l.length = m.length) (hl : l.length ≤ 150) (h1 : ∀ x ∈ l, smallI x) (h2 : ∀ x ∈ m, smallI x) (h : List Ob) : ∀ (k i : Nat) (s : Int), i + k = l.length → -(1099511627776 * (i : Int)) ≤ s ∧ s ≤ 1099511627776 * (i : Int) →
  ∃ fr', evw C y0 i_sums_Dot_l0 [(0, intsV l), (1, intsV m), (6, iv s), (16, iv l.length), (17, iv i)] h = some (.ext 0, fr', h) ∧ get fr' 6 = iv (s + dotI (l.drop i) (m.drop i)) := by
 intro k
 induction k with
 | zero =>
  intro i s hi hs
  have : i = l.length := by omega
  subst this
  rw [r_sums_Dot_0, List.drop_length]
  refine ⟨[(0, intsV l), (1, intsV m), (6, iv s), (16, iv l.length), (17, iv l.length), (18, .bool false)], ?_, by simp [get, dotI]⟩
  simp [b_sums_Dot_0]
 | succ k ih =>
  intro i s hi hs
  have hlt : i < l.length := by omega
  have hlt' : i < m.length := by omega
  have hw := wrap_succ hlt (by omega)
  have hm := mul_small (h1 _ (List.getElem_mem hlt)) (h2 _ (List.getElem_mem hlt'))
  have k1 := sums_Mul l[i] m[i] (h1 _ (List.getElem_mem hlt)) (h2 _ (List.getElem_mem hlt'))
  have k2 := sums_Add s (l[i] * m[i]) (by omega) (by omega)
  obtain ⟨fr', e1, e2⟩ := ih (i + 1) (s + l[i] * m[i]) (by omega) (by rw [Int.natCast_add]; omega)
  simp only [Int.natCast_add, Int.cast_ofNat_Int] at e1
  refine ⟨fr', ?_, ?_⟩
  ·rw [r_sums_Dot_0, ← e1]
   simp [b_sums_Dot_0, hlt, hlt', k1, k2, hw]
  ·rw [e2, List.drop_eq_getElem_cons hlt, List.drop_eq_getElem_cons hlt']
   simp only [dotI, Int.add_assoc]
theorem sums_Dot (l m : List Int) (hlm : l.length = m.length) (hl : l.length ≤ 150) (h1 : ∀ x ∈ l, smallI x) (h2 : ∀ x ∈ m, smallI x) (h : List Ob) : acw C n_sums_Dot [intsV l, intsV m] h = some (.ret (.tup [iv (dotI l m), iv 0]), h) := by
 refine acw_ex (v := .tup [iv (dotI l m), iv 0]) (CT T_sums_Dot) rfl rfl (fun _ => rfl) (by simp) ?_
 obtain ⟨fr', e1, e2⟩ := dot_loop l m hlm hl h1 h2 [] l.length 0 0 (by omega) (by omega)
 simp only [Int.cast_ofNat_Int, List.drop_zero, Int.zero_add] at e1 e2
 have hlm' : (l.length : Int) = m.length := by omega
 rw [hlm'] at e1
 simp [runW_fin, F_sums_Dot, i_sums_Dot, e1, e2, hlm', hlm]
theorem sums_Holds (a r b : Int) (h : List Ob) : acw C n_sums_Holds [iv a, iv r, iv b] h = some (.ret (.bool (relB r a b)), h) := by
 refine acw_ex (v := .bool (relB r a b)) (CT T_sums_Holds) rfl rfl (fun _ => rfl) (by simp) ?_
 unfold relB
 by_cases c0 : r = 0
 ·subst c0; simp [runW_fin, F_sums_Holds, i_sums_Holds, ieq]
 by_cases c1 : r = 1
 ·subst c1; simp [runW_fin, F_sums_Holds, i_sums_Holds, ine]
 by_cases c2 : r = 2
 ·subst c2; simp [runW_fin, F_sums_Holds, i_sums_Holds]
 by_cases c3 : r = 3
 ·subst c3; simp [runW_fin, F_sums_Holds, i_sums_Holds]
 by_cases c4 : r = 4
 ·subst c4; simp [runW_fin, F_sums_Holds, i_sums_Holds]
 by_cases c5 : r = 5
 ·subst c5; simp [runW_fin, F_sums_Holds, i_sums_Holds]
 simp [runW_fin, F_sums_Holds, i_sums_Holds, c0, c1, c2, c3, c4, c5, ieq]
end Go.RR.M
set_option linter.unusedVariables false
set_option linter.unusedSimpArgs false
set_option maxRecDepth 100000
set_option maxHeartbeats 4000000
namespace Go.RR
/-- values of a constraint's variables -/
def valsOf (c : Con) (row : List Int) : List Int := c.vars.map fun v => row.getD v.toNat 0
theorem valsOf_len (c : Con) (row : List Int) : (valsOf c row).length = c.vars.length := by simp [valsOf]
def tabN (n : Nat) (vals : List Int) : Nat → List Int → Bool
 | 0, _ => false
 | k + 1, nums => decide (nums.take n = vals) || tabN n vals k (nums.drop n)
def holdsB (c : Con) (row : List Int) : Bool :=
 if c.kind = 1 then relB c.rel (dotI c.coefs (valsOf c row)) c.const
 else if c.kind = 2 then decide ((valsOf c row).getD 0 0 * (valsOf c row).getD 1 0 = (valsOf c row).getD 2 0)
 else if c.kind = 3 then (decide ((valsOf c row).getD 0 0 = 1) && relB c.rel (dotI c.coefs ((valsOf c row).drop 1)) c.const) || (decide ((valsOf c row).getD 0 0 = 0) && !relB c.rel (dotI c.coefs ((valsOf c row).drop 1)) c.const)
 else if c.kind = 4 then decide (0 ≤ (valsOf c row).getD 0 0) && (decide ((valsOf c row).getD 0 0 < c.nums.length) && decide (c.nums.getD ((valsOf c row).getD 0 0).toNat 0 = (valsOf c row).getD 1 0))
 else if c.kind = 5 then decide (valsOf c row).Nodup
 else tabN c.vars.length (valsOf c row) (c.nums.length / c.vars.length) c.nums
theorem vOK_all {n : Int} : ∀ {l pre : List Int}, vOK n pre l = true → ∀ v ∈ l, 0 ≤ v ∧ v < n
 | [], _, _, v, hv => by simp at hv
 | x :: r, pre, h, v, hv => by
  simp only [vOK, Bool.and_eq_true, decide_eq_true_eq] at h
  rcases List.mem_cons.1 hv with rfl | hv
  ·exact ⟨h.1.1.1, h.1.1.2⟩
  ·exact vOK_all h.2 v hv
theorem withinB_all {m : Int} {l : List Int} (h : withinB m l = true) : ∀ x ∈ l, -m ≤ x ∧ x ≤ m := by
 unfold withinB at h
 intro x hx
 have := List.all_eq_true.1 h x hx
 simpa using this
theorem dotI_take : ∀ (l m : List Int), dotI l (m.take l.length) = dotI l m
 | [], m => rfl
 | a :: r, [] => rfl
 | a :: r, b :: s => by simp [dotI, dotI_take r s]
end Go.RR
namespace Go.RR.M
open Go Go.RR
theorem cmp_loop (c : Con) (vals : List Int) (hv : c.coefs.length ≤ vals.length) (hl : c.coefs.length ≤ 150) : ∀ (k i : Nat), i + k = c.coefs.length → 1 ≤ i →
  evw C y0 i_ground_compared_l0 [(1, intsV vals), (2, .ptr 0 0 0 1), (5, .own 1 0 i i), (6, .own 2 0 i i), (12, intsV c.coefs), (13, iv c.coefs.length), (14, iv i)] [.row 6 [conV c], .row 1 ((c.coefs.map (V.int .i64)).take i), .row 1 ((vals.map (V.int .i64)).take i)] =
   some (.ext 0, [(1, intsV vals), (2, .ptr 0 0 0 1), (5, .own 1 0 c.coefs.length c.coefs.length), (6, .own 2 0 c.coefs.length c.coefs.length), (12, intsV c.coefs), (13, iv c.coefs.length), (14, iv c.coefs.length), (15, .bool false)], [.row 6 [conV c], .row 1 (c.coefs.map (V.int .i64)), .row 1 ((vals.map (V.int .i64)).take c.coefs.length)]) := by
 intro k
 induction k with
 | zero =>
  intro i hi h1
  have : i = c.coefs.length := by omega
  subst this
  rw [r_ground_compared_0]
  have e : (c.coefs.map (V.int .i64)).take c.coefs.length = c.coefs.map (V.int .i64) := List.take_of_length_le (by simp)
  rw [e]
  simp [b_ground_compared_0]
 | succ k ih =>
  intro i hi h1
  have hlt : i < c.coefs.length := by omega
  have hlt' : i < vals.length := by omega
  have hw := wrap_succ hlt (by omega)
  have ih := ih (i + 1) (by omega) (by omega)
  simp only [Int.natCast_add, Int.cast_ofNat_Int] at ih
  have e1 : appV 3 [.row 6 [conV c], .row 1 ((c.coefs.map (V.int .i64)).take i), .row 1 ((vals.map (V.int .i64)).take i)] 1 8 (.own 1 0 i i) (.sl 1 [iv c.coefs[i]]) = some (.own 1 0 (i + 1) (i + 1), some (1, .row 1 ((c.coefs.map (V.int .i64)).take i ++ [iv c.coefs[i]]))) :=
   appV_own rfl (by simp; omega) rfl (by simp) rfl (by omega) (by omega)
  have e2 : appV 3 [.row 6 [conV c], .row 1 ((c.coefs.map (V.int .i64)).take i ++ [iv c.coefs[i]]), .row 1 ((vals.map (V.int .i64)).take i)] 1 8 (.own 2 0 i i) (.sl 1 [iv vals[i]]) = some (.own 2 0 (i + 1) (i + 1), some (2, .row 1 ((vals.map (V.int .i64)).take i ++ [iv vals[i]]))) :=
   appV_own rfl (by simp; omega) rfl (by simp) rfl (by omega) (by omega)
  have t1 : (c.coefs.map (V.int .i64)).take i ++ [iv c.coefs[i]] = (c.coefs.map (V.int .i64)).take (i + 1) := by
   rw [← List.take_append_getElem (by simpa using hlt)]; simp
  have t2 : (vals.map (V.int .i64)).take i ++ [iv vals[i]] = (vals.map (V.int .i64)).take (i + 1) := by
   rw [← List.take_append_getElem (by simpa using hlt')]; simp
  have k4 : ∀ x : Int, bsfL (.int .i64 0) [iv x] = some (.sl 1 [iv x]) := fun _ => rfl
  rw [r_ground_compared_0, ← ih, ← t1, ← t2]
  simp [b_ground_compared_0, hlt, hlt', hw, e1, e2, k4]
theorem compared (c : Con) (vals : List Int) (hv : c.coefs.length ≤ vals.length) (h0 : 1 ≤ c.coefs.length) (hl : c.coefs.length ≤ 150) (h1 : ∀ x ∈ c.coefs, smallI x) (h2 : ∀ x ∈ vals, smallI x) (h : List Ob) : acw C n_ground_compared [conV c, intsV vals] h = some (.ret (.bool (relB c.rel (dotI c.coefs vals) c.const)), h) := by
 refine acw_ex (v := .bool (relB c.rel (dotI c.coefs vals) c.const)) (CT T_ground_compared) rfl rfl (fun _ => rfl) (by simp) ?_
 have hlt : 0 < c.coefs.length := by omega
 have hlt' : 0 < vals.length := by omega
 obtain ⟨n, hn⟩ : ∃ n, c.coefs.length = n + 1 := ⟨c.coefs.length - 1, by omega⟩
 have ih := cmp_loop c vals hv hl n 1 (by omega) (by omega)
 simp only [Int.cast_ofNat_Int] at ih
 have t0 : ∀ (l : List Int) (h : 0 < l.length), (l.map (V.int .i64)).take 1 = [iv l[0]] := fun l h => by
  cases l with
  | nil => simp at h
  | cons a r => simp
 have t1 := t0 c.coefs hlt
 have t2 := t0 vals hlt'
 rw [t1, t2] at ih
 have e1 : appV 1 [.row 6 [conV c]] 1 8 (.nsl 1) (.sl 1 [iv c.coefs[0]]) = some (.own 1 0 1 1, some (1, .row 1 [iv c.coefs[0]])) := appV_nsl rfl (by simp) rfl (by omega) (by omega)
 have e2 : appV 2 [.row 6 [conV c], .row 1 [iv c.coefs[0]]] 1 8 (.nsl 1) (.sl 1 [iv vals[0]]) = some (.own 2 0 1 1, some (2, .row 1 [iv vals[0]])) := appV_nsl rfl (by simp) rfl (by omega) (by omega)
 have k4 : ∀ x : Int, bsfL (.int .i64 0) [iv x] = some (.sl 1 [iv x]) := fun _ => rfl
 have first : evw C y0 i_ground_compared_l0 [(1, intsV vals), (2, .ptr 0 0 0 1), (5, .nsl 1), (6, .nsl 1), (12, intsV c.coefs), (13, iv c.coefs.length), (14, iv 0)] [.row 6 [conV c]] = evw C y0 i_ground_compared_l0 [(1, intsV vals), (2, .ptr 0 0 0 1), (5, .own 1 0 1 1), (6, .own 2 0 1 1), (12, intsV c.coefs), (13, iv c.coefs.length), (14, iv 1)] [.row 6 [conV c], .row 1 [iv c.coefs[0]], .row 1 [iv vals[0]]] := by
  rw [r_ground_compared_0]
  have hp : (0 : Int) < c.coefs.length := by omega
  have hp' : (0 : Int) < vals.length := by omega
  simp [b_ground_compared_0, hlt, hlt', hp, hp', e1, e2, k4]
 rw [ih] at first
 have hd := sums_Dot c.coefs (vals.take c.coefs.length) (by simp; omega) hl h1 (fun x hx => h2 x (List.mem_of_mem_take hx))
 rw [dotI_take] at hd
 have hk : acw C n_sums_Dot [.own 1 0 c.coefs.length c.coefs.length, .own 2 0 c.coefs.length c.coefs.length] [.row 6 [conV c], .row 1 (c.coefs.map (V.int .i64)), .row 1 ((vals.map (V.int .i64)).take c.coefs.length)] = some (.ret (.tup [iv (dotI c.coefs vals), iv 0]), [.row 6 [conV c], .row 1 (c.coefs.map (V.int .i64)), .row 1 ((vals.map (V.int .i64)).take c.coefs.length)]) := by
  refine acw_of_frz (CT T_sums_Dot) rfl ?_ rfl (hd []) rfl
  have m1 : ∀ (h : List Ob) (l : List Int), mapO (frz h 11) (l.map (V.int .i64)) = some (l.map (V.int .i64)) := fun h l => mapO_id fun x hx => by
   obtain ⟨d, -, rfl⟩ := List.mem_map.1 hx; rfl
  have q1 : ((vals.map (V.int .i64)).take c.coefs.length).length = c.coefs.length := by simp; omega
  have q2 : (c.coefs.map (V.int .i64)).length = c.coefs.length := by simp
  have f1 : ∀ h : List Ob, h[1]? = some (.row 1 (c.coefs.map (V.int .i64))) → frz h 12 (.own 1 0 c.coefs.length c.coefs.length) = some (intsV c.coefs) := fun h e => by
   have := AccB.frz (B := 0) (h := h) (v := .own 1 0 c.coefs.length c.coefs.length) (z := 1) (xs := c.coefs.map (V.int .i64)) 11 (.own (Nat.zero_le _) q2.symm e) (m1 _ _)
   exact this
  have f2 : ∀ h : List Ob, h[2]? = some (.row 1 ((vals.map (V.int .i64)).take c.coefs.length)) → frz h 12 (.own 2 0 c.coefs.length c.coefs.length) = some (intsV (vals.take c.coefs.length)) := fun h e => by
   have := AccB.frz (B := 0) (h := h) (v := .own 2 0 c.coefs.length c.coefs.length) (z := 1) (xs := (vals.map (V.int .i64)).take c.coefs.length) 11 (.own (Nat.zero_le _) q1.symm e) (by rw [← List.map_take]; exact m1 _ _)
   exact this
  have g1 := f1 [.row 6 [conV c], .row 1 (c.coefs.map (V.int .i64)), .row 1 ((vals.map (V.int .i64)).take c.coefs.length)] rfl
  have g2 := f2 [.row 6 [conV c], .row 1 (c.coefs.map (V.int .i64)), .row 1 ((vals.map (V.int .i64)).take c.coefs.length)] rfl
  show mapO (frz _ 12) _ = _
  simp only [mapO, g1, g2]
 have k5 := sums_Holds (dotI c.coefs vals) c.rel c.const
 simp [runW_fin, F_ground_compared, i_ground_compared, first, hk, k5]
theorem holds_1 (c : Con) (row : List Int) (i : Nat) (hi : i < c.vars.length) (hr : 0 ≤ c.vars[i] ∧ c.vars[i] < row.length) {h : List Ob} {x y : V} (hx : frzL h [iv i, x, y] = some [iv i, .pin (intsV row) 0, .pin (conV c) 0]) : acw C n_ground_holds_1 [iv i, x, y] h = some (.ret (iv ((valsOf c row).getD i 0)), h) := by
 have e : (valsOf c row).getD i 0 = row[c.vars[i].toNat]'(by omega) := by
  have hlt : c.vars[i].toNat < row.length := by omega
  simp [valsOf, hi, hlt]
 have hlt : c.vars[i].toNat < row.length := by omega
 refine acw_ex (v := iv ((valsOf c row).getD i 0)) (CT T_ground_holds_1) rfl hx (fun _ => rfl) (by simp) ?_
 rw [e]
 have hat : at? (row.map (V.int .i64)) c.vars[i] = some (iv row[c.vars[i].toNat]) := by simp [at?, hr.1, hlt]
 simp [runW_fin, F_ground_holds_1, i_ground_holds_1, hi, hr.1, hr.2, hat]
end Go.RR.M
set_option linter.unusedVariables false
set_option linter.unusedSimpArgs false
set_option maxRecDepth 100000
set_option maxHeartbeats 8000000
namespace Go.RR
open Go.Lib
theorem comp_nodup {l : List Int} (hs : l.Pairwise (· ≤ ·)) : (compact l).length = l.length ↔ l.Nodup := by
 have e : (compact l).length = l.length ↔ ∀ j, j < l.length → keeps l.toArray j = true := by
  unfold compact compactUpTo
  rw [List.length_map]
  have := List.length_filter_eq_length_iff (p := keeps l.toArray) (l := List.range l.length)
  rw [List.length_range] at this
  rw [this]
  simp
 rw [e, List.nodup_iff_pairwise_ne, List.pairwise_iff_getElem]
 rw [List.pairwise_iff_getElem] at hs
 constructor
 ·intro h i j hi hj hij
  have h1 := h j hj
  unfold keeps at h1
  have hj0 : j ≠ 0 := by omega
  simp only [hj0, false_or, decide_eq_true_eq] at h1
  rw [getElem!_pos _ j (by simpa using hj), getElem!_pos _ (j - 1) (by simp; omega)] at h1
  simp only [List.getElem_toArray] at h1
  have h2 : l[j - 1] ≤ l[j] := hs (j - 1) j (by omega) hj (by omega)
  have h3 : l[i] ≤ l[j - 1] := by
   rcases Nat.lt_or_ge i (j - 1) with h4 | h4
   ·exact hs i (j - 1) hi (by omega) h4
   ·have : i = j - 1 := by omega
    subst this; exact Int.le_refl _
  omega
 ·intro h j hj
  unfold keeps
  simp only [decide_eq_true_eq]
  rcases Nat.eq_zero_or_pos j with h0 | h0
  ·exact .inl h0
  ·right
   rw [getElem!_pos _ j (by simpa using hj), getElem!_pos _ (j - 1) (by simp; omega)]
   simp only [List.getElem_toArray]
   exact fun e => h (j - 1) j (by omega) hj (by omega) e.symm
theorem comp_dec (l : List Int) : decide ((compact (sortI l)).length = l.length) = decide l.Nodup := by
 have h1 := comp_nodup (sortI_sorted l)
 rw [sortI_length] at h1
 have h2 := (sortI_perm l).nodup_iff
 by_cases h : l.Nodup
 ·simp [h, h1.2 (h2.2 h)]
 ·have : ¬ (compact (sortI l)).length = l.length := fun e => h (h2.1 (h1.1 e))
  simp [h, this]
end Go.RR
namespace Go.RR.M
open Go Go.RR Go.Lib
theorem eq_ints (l m : List Int) (hl : l.length ≤ 4611686018427387904) (h : List Ob) : acw C n_slices_Equal_sint_int [intsV l, intsV m] h = some (.ret (.bool (decide (l = m))), h) := by
 have := equal (C := C) (n := n_slices_Equal_sint_int) (CT T_slices_Equal_sint_int) rfl (enc := V.int .i64) (q := fun a b => a == b) cmpn_int l m hl (fun _ => elt_int) h
 rw [this, all2_eq]
 congr 4
 by_cases e : l = m <;> simp [e]
abbrev H0 (c : Con) (row : List Int) (t : List Ob) : List Ob := .row 6 [conV c] :: .row 1 [intsV row] :: t
theorem of_frz (c : Con) (row : List Int) (i : Int) (t : List Ob) : frzL (H0 c row t) [iv i, .ptr 1 0 0 1, .ptr 0 0 0 1] = some [iv i, .pin (intsV row) 0, .pin (conV c) 0] := rfl
theorem of_frz' (c : Con) (row : List Int) (i : Int) (t : List Ob) : frzL ((H0 c row t).take 4096) [iv i, .ptr 1 0 0 1, .ptr 0 0 0 1] = some [iv i, .pin (intsV row) 0, .pin (conV c) 0] := rfl
section
variable (c : Con) (row : List Int) (hr : ∀ v ∈ c.vars, 0 ≤ v ∧ v < row.length)
theorem of_ (hr : ∀ v ∈ c.vars, 0 ≤ v ∧ v < row.length) (i : Nat) (hi : i < c.vars.length) (t : List Ob) : acw C n_ground_holds_1 [iv i, .ptr 1 0 0 1, .ptr 0 0 0 1] (H0 c row t) = some (.ret (iv ((valsOf c row).getD i 0)), H0 c row t) :=
 holds_1 c row i hi (hr _ (List.getElem_mem hi)) (of_frz c row i t)
theorem of_dq (hr : ∀ v ∈ c.vars, 0 ≤ v ∧ v < row.length) (i : Nat) (hi : i < c.vars.length) (t : List Ob) (r : Option (Out × List Ob)) : dq false r (crw C y0) n_ground_holds_1 [iv i, .ptr 1 0 0 1, .ptr 0 0 0 1] (H0 c row t) = some (.ret (iv ((valsOf c row).getD i 0)), H0 c row t) :=
 dq_frz (of_frz' c row i t) rfl rfl (holds_1 c row i hi (hr _ (List.getElem_mem hi)) (h := []) rfl) rfl rfl r
theorem vals_loop (hr : ∀ v ∈ c.vars, 0 ≤ v ∧ v < row.length) (hn : c.vars.length ≤ 150) : ∀ (k i : Nat), i + k = c.vars.length → 1 ≤ i →
  evw C y0 i_ground_holds_l0 [(2, .ptr 0 0 0 1), (5, .fn (.func n_ground_holds_1) [] [.ptr 1 0 0 1, .ptr 0 0 0 1]), (6, .own 2 0 i i), (13, iv c.vars.length), (14, iv i)] (H0 c row [.row 1 (((valsOf c row).map (V.int .i64)).take i)]) =
   some (.ext 0, [(2, .ptr 0 0 0 1), (5, .fn (.func n_ground_holds_1) [] [.ptr 1 0 0 1, .ptr 0 0 0 1]), (6, .own 2 0 c.vars.length c.vars.length), (13, iv c.vars.length), (14, iv c.vars.length), (15, .bool false)], H0 c row [.row 1 ((valsOf c row).map (V.int .i64))]) := by
 intro k
 induction k with
 | zero =>
  intro i hi h1
  have : i = c.vars.length := by omega
  subst this
  rw [r_ground_holds_0]
  have e : ((valsOf c row).map (V.int .i64)).take c.vars.length = (valsOf c row).map (V.int .i64) := List.take_of_length_le (by simp [valsOf_len])
  rw [e]
  simp [b_ground_holds_0]
 | succ k ih =>
  intro i hi h1
  have hlt : i < c.vars.length := by omega
  have hlt' : i < (valsOf c row).length := by rw [valsOf_len]; exact hlt
  have hw := wrap_succ hlt (by omega)
  have ih := ih (i + 1) (by omega) (by omega)
  simp only [Int.natCast_add, Int.cast_ofNat_Int] at ih
  have k1 := of_ c row hr i hlt
  obtain ⟨x, ex⟩ : ∃ x, x = (valsOf c row).getD i 0 := ⟨_, rfl⟩
  rw [← ex] at k1
  have e1 : appV 3 (H0 c row [.row 1 (((valsOf c row).map (V.int .i64)).take i)]) 1 8 (.own 2 0 i i) (.sl 1 [iv x]) = some (.own 2 0 (i + 1) (i + 1), some (2, .row 1 (((valsOf c row).map (V.int .i64)).take i ++ [iv x]))) :=
   appV_own rfl (by simp; omega) rfl (by simp) rfl (by omega) (by omega)
  have t1 : ((valsOf c row).map (V.int .i64)).take i ++ [iv x] = ((valsOf c row).map (V.int .i64)).take (i + 1) := by
   rw [← List.take_append_getElem (by simpa using hlt')]
   simp [ex, hlt']
  have k4 : ∀ x : Int, bsfL (.int .i64 0) [iv x] = some (.sl 1 [iv x]) := fun _ => rfl
  rw [r_ground_holds_0, ← ih, ← t1]
  simp [b_ground_holds_0, hlt, hw, k1, e1, k4]
theorem vals_all (hr : ∀ v ∈ c.vars, 0 ≤ v ∧ v < row.length) (hn : c.vars.length ≤ 150) (h0 : 1 ≤ c.vars.length) :
  evw C y0 i_ground_holds_l0 [(2, .ptr 0 0 0 1), (5, .fn (.func n_ground_holds_1) [] [.ptr 1 0 0 1, .ptr 0 0 0 1]), (6, .nsl 1), (13, iv c.vars.length), (14, iv 0)] (H0 c row []) =
   some (.ext 0, [(2, .ptr 0 0 0 1), (5, .fn (.func n_ground_holds_1) [] [.ptr 1 0 0 1, .ptr 0 0 0 1]), (6, .own 2 0 c.vars.length c.vars.length), (13, iv c.vars.length), (14, iv c.vars.length), (15, .bool false)], H0 c row [.row 1 ((valsOf c row).map (V.int .i64))]) := by
 obtain ⟨n, hn'⟩ : ∃ n, c.vars.length = n + 1 := ⟨c.vars.length - 1, by omega⟩
 have ih := vals_loop c row hr hn n 1 (by omega) (by omega)
 simp only [Int.cast_ofNat_Int] at ih
 have k1 := of_ c row hr 0 (by omega)
 simp only [Int.cast_ofNat_Int] at k1
 obtain ⟨x, ex⟩ : ∃ x, x = (valsOf c row).getD 0 0 := ⟨_, rfl⟩
 rw [← ex] at k1
 have hp : 0 < c.vars.length := by omega
 have hl : 0 < (valsOf c row).length := by rw [valsOf_len]; omega
 have e1 : appV 2 (H0 c row []) 1 8 (.nsl 1) (.sl 1 [iv x]) = some (.own 2 0 1 1, some (2, .row 1 [iv x])) := appV_nsl rfl (by simp) rfl (by omega) (by omega)
 have t1 : ((valsOf c row).map (V.int .i64)).take 1 = [iv x] := by
  rw [ex]
  cases hv : valsOf c row with
  | nil => rw [hv] at hl; simp at hl
  | cons a r => simp
 rw [t1] at ih
 have k4 : ∀ x : Int, bsfL (.int .i64 0) [iv x] = some (.sl 1 [iv x]) := fun _ => rfl
 rw [r_ground_holds_0, ← ih]
 simp [b_ground_holds_0, hp, k1, e1, k4]
theorem tab_loop (hn : c.vars.length ≤ 150) (h0 : 1 ≤ c.vars.length) : ∀ (k : Nat) (rest : List Int), rest.length = k * c.vars.length → rest.length ≤ 150 →
  evw C y0 i_ground_holds_l1 [(6, .own 2 0 c.vars.length c.vars.length), (9, intsV rest)] (H0 c row [.row 1 ((valsOf c row).map (V.int .i64))]) =
   some (if tabN c.vars.length (valsOf c row) k rest = true then (.ret, [(4, .bool true)], H0 c row [.row 1 ((valsOf c row).map (V.int .i64))]) else (.ext 3, [(6, .own 2 0 c.vars.length c.vars.length), (9, intsV []), (101, .bool false)], H0 c row [.row 1 ((valsOf c row).map (V.int .i64))])) := by
 intro k
 induction k with
 | zero =>
  intro rest hl hb
  have : rest = [] := List.eq_nil_of_length_eq_zero (by omega)
  subst this
  rw [r_ground_holds_1]
  simp [b_ground_holds_1, tabN]
 | succ k ih =>
  intro rest hl hb
  have hge : c.vars.length ≤ rest.length := by rw [hl, Nat.add_mul]; omega
  have hge' : (c.vars.length : Int) ≤ rest.length := by omega
  have hp : 0 < rest.length := by omega
  have ih := ih (rest.drop c.vars.length) (by rw [List.length_drop, hl, Nat.add_mul]; omega) (by rw [List.length_drop]; omega)
  have hk : acw C n_slices_Equal_sint_int [.sl 1 ((rest.map (V.int .i64)).take c.vars.length), .own 2 0 c.vars.length c.vars.length] (H0 c row [.row 1 ((valsOf c row).map (V.int .i64))]) = some (.ret (.bool (decide (rest.take c.vars.length = valsOf c row))), H0 c row [.row 1 ((valsOf c row).map (V.int .i64))]) := by
   have e := eq_ints (rest.take c.vars.length) (valsOf c row) (by rw [List.length_take]; omega) []
   simp only [intsV, List.map_take] at e
   refine acw_of_frz (CT T_slices_Equal_sint_int) rfl ?_ rfl e rfl
   have g2 := AccB.frz (B := 0) (h := H0 c row [.row 1 ((valsOf c row).map (V.int .i64))]) (v := .own 2 0 c.vars.length c.vars.length) (z := 1) (xs := (valsOf c row).map (V.int .i64)) 11 (.own (Nat.zero_le _) (by simp [valsOf_len]) rfl) (frz_ints _ _ _)
   show mapO (frz _ 12) _ = _
   simp only [mapO, g2, show frz (H0 c row [.row 1 ((valsOf c row).map (V.int .i64))]) 12 (.sl 1 ((rest.map (V.int .i64)).take c.vars.length)) = some (.sl 1 ((rest.map (V.int .i64)).take c.vars.length)) from rfl]
  have tk : (rest.map (V.int .i64)).take rest.length = rest.map (V.int .i64) := List.take_of_length_le (by simp)
  simp only [intsV, List.map_drop] at ih
  rw [r_ground_holds_1]
  simp only [tabN]
  by_cases c1 : rest.take c.vars.length = valsOf c row
  ·simp only [c1, decide_true] at hk
   simp [b_ground_holds_1, valsOf_len, hp, hge, hge', hk, c1]
  ·simp only [c1, decide_false] at hk
   simp only [c1, decide_false, Bool.false_or, ← ih]
   simp [b_ground_holds_1, valsOf_len, hp, hge, hge', hk, tk]
end
end Go.RR.M
set_option linter.unusedVariables false
set_option linter.unusedSimpArgs false
set_option maxRecDepth 100000
set_option maxHeartbeats 8000000
namespace Go.RR.M
open Go Go.RR Go.Lib
theorem varsB_inv {c : Con} {n a b : Int} (h : varsB c n a b = true) : (a ≤ c.vars.length ∧ (c.vars.length : Int) ≤ b) ∧ ∀ v ∈ c.vars, 0 ≤ v ∧ v < n := by
 unfold varsB at h
 simp only [Bool.and_eq_true, decide_eq_true_eq] at h
 exact ⟨h.1, vOK_all h.2⟩
theorem sumB_inv {c : Con} {b : Int} (h : sumB c b = true) : (c.coefs.length : Int) = c.vars.length - b ∧ (∀ x ∈ c.coefs, smallI x) ∧ (0 ≤ c.rel ∧ c.rel ≤ 5) ∧ (-1099511627776 ≤ c.const ∧ c.const ≤ 1099511627776) ∧ c.nums.length = 0 := by
 unfold sumB at h
 simp only [Bool.and_eq_true, decide_eq_true_eq] at h
 obtain ⟨h1, h2, -, h4, h5, h6, h7⟩ := h
 exact ⟨h1, fun x hx => withinB_all h2 x hx, ⟨h4, h5⟩, withinB_all h6 _ (by simp), h7⟩
theorem bareB_inv {c : Con} {a b : Int} (h : bareB c a b = true) : c.coefs.length = 0 ∧ (a ≤ c.nums.length ∧ (c.nums.length : Int) ≤ b) ∧ ∀ x ∈ c.nums, smallI x := by
 unfold bareB at h
 simp only [Bool.and_eq_true, decide_eq_true_eq] at h
 obtain ⟨h1, -, -, h4, h5, h6⟩ := h
 exact ⟨h1, ⟨h4, h5⟩, fun x hx => withinB_all h6 x hx⟩
/-- what is known of constraints that may be -/
inductive Kd (c : Con) (n : Int) : Prop where
 | lin (h : c.kind = 1) (hv : varsB c n 1 8 = true) (hs : sumB c 0 = true)
 | prod (h : c.kind = 2) (hv : varsB c n 3 3 = true) (hs : bareB c 0 0 = true)
 | iff (h : c.kind = 3) (hv : varsB c n 2 9 = true) (hs : sumB c 1 = true)
 | elt (h : c.kind = 4) (hv : varsB c n 2 2 = true) (hs : bareB c 1 96 = true)
 | dif (h : c.kind = 5) (hv : varsB c n 2 8 = true) (hs : bareB c 0 0 = true)
 | tab (h : c.kind = 6) (hv : varsB c n 1 8 = true) (hs : bareB c 0 96 = true) (hm : ((c.nums.length : Int).tmod c.vars.length) = 0)
theorem kd {c : Con} {n : Int} (h : rightB c n = true) : Kd c n := by
 unfold rightB at h
 split at h
 ·rename_i e; unfold linearB at h; simp only [Bool.and_eq_true] at h; exact .lin e h.1 h.2
 split at h
 ·rename_i e; unfold productB at h; simp only [Bool.and_eq_true] at h; exact .prod e h.1 h.2
 split at h
 ·rename_i e; unfold iffB at h; simp only [Bool.and_eq_true] at h; exact .iff e h.1 h.2
 split at h
 ·rename_i e; unfold elementB at h; simp only [Bool.and_eq_true] at h; exact .elt e h.1 h.2
 split at h
 ·rename_i e; unfold differB at h; simp only [Bool.and_eq_true] at h; exact .dif e h.1 h.2
 split at h
 ·rename_i e; unfold tableB at h; simp only [Bool.and_eq_true, decide_eq_true_eq] at h; exact .tab e h.1 h.2.1 h.2.2
 ·cases h
theorem Kd.vars {c : Con} {n : Int} (h : Kd c n) : (1 ≤ c.vars.length ∧ c.vars.length ≤ 9) ∧ ∀ v ∈ c.vars, 0 ≤ v ∧ v < n := by
 cases h with
 | lin _ hv => have := varsB_inv hv; exact ⟨by omega, this.2⟩
 | prod _ hv => have := varsB_inv hv; exact ⟨by omega, this.2⟩
 | iff _ hv => have := varsB_inv hv; exact ⟨by omega, this.2⟩
 | elt _ hv => have := varsB_inv hv; exact ⟨by omega, this.2⟩
 | dif _ hv => have := varsB_inv hv; exact ⟨by omega, this.2⟩
 | tab _ hv => have := varsB_inv hv; exact ⟨by omega, this.2⟩
theorem vals_small {c : Con} {row : List Int} (hr : ∀ x ∈ row, smallI x) : ∀ x ∈ valsOf c row, smallI x := by
 intro x hx
 unfold valsOf at hx
 obtain ⟨v, -, rfl⟩ := List.mem_map.1 hx
 rw [List.getD_eq_getElem?_getD]
 cases e : row[v.toNat]? with
 | none => exact ⟨by simp, by simp⟩
 | some y => exact hr y (List.mem_of_getElem? e)
theorem getD_small {l : List Int} (h : ∀ x ∈ l, smallI x) (i : Nat) : smallI (l.getD i 0) := by
 rw [List.getD_eq_getElem?_getD]
 cases e : l[i]? with
 | none => exact ⟨by simp, by simp⟩
 | some y => exact h y (List.mem_of_getElem? e)
abbrev HV (c : Con) (row : List Int) : List Ob := H0 c row [.row 1 ((valsOf c row).map (V.int .i64))]
theorem frz_vals (c : Con) (row : List Int) (k : Nat) (hk : k ≤ c.vars.length) (h : List Ob) (hh : h[2]? = some (.row 1 ((valsOf c row).map (V.int .i64)))) : frz h 12 (.own 2 k (c.vars.length - k) c.vars.length) = some (intsV ((valsOf c row).drop k)) := by
 have e : elems h (.own 2 k (c.vars.length - k) c.vars.length) = some (1, ((valsOf c row).drop k).map (V.int .i64)) := by
  simp only [elems, rowOf, hh, List.length_map, valsOf_len, if_true]
  rw [List.map_drop, List.take_of_length_le (by simp [valsOf_len])]
 show (match elems h (.own 2 k (c.vars.length - k) c.vars.length) with
  | some (z, xs) => (mapO (frz h 11) xs).map (V.sl z)
  | none => none) = _
 rw [e]
 simp only [frz_ints h 10, Option.map_some]
/-- whether a constraint holds -/
theorem holds (c : Con) (row : List Int) (hk : rightB c row.length = true) (hrow : ∀ x ∈ row, smallI x) (h : List Ob) : acw C n_ground_holds [conV c, intsV row] h = some (.ret (.bool (holdsB c row)), h) := by
 have K := kd hk
 obtain ⟨⟨h1, h9⟩, hr⟩ := K.vars
 have k0 := vals_all c row hr (by omega) h1
 have hvs := vals_small (c := c) hrow
 have hlen := valsOf_len c row
 refine acw_ex (v := .bool (holdsB c row)) (CT T_ground_holds) rfl rfl (fun _ => rfl) (by simp) ?_
 have o := of_ c row hr
 have q := of_dq c row hr
 obtain ⟨v0, e0⟩ : ∃ x, x = (valsOf c row).getD 0 0 := ⟨_, rfl⟩
 obtain ⟨v1, e1⟩ : ∃ x, x = (valsOf c row).getD 1 0 := ⟨_, rfl⟩
 obtain ⟨v2, e2⟩ : ∃ x, x = (valsOf c row).getD 2 0 := ⟨_, rfl⟩
 have s0 : smallI v0 := by rw [e0]; exact getD_small hvs 0
 have s1 : smallI v1 := by rw [e1]; exact getD_small hvs 1
 have s2 : smallI v2 := by rw [e2]; exact getD_small hvs 2
 have o0 := o 0 (by omega) [.row 1 ((valsOf c row).map (V.int .i64))]
 have q0 := q 0 (by omega) [.row 1 ((valsOf c row).map (V.int .i64))]
 rw [← e0] at o0 q0
 simp only [Int.cast_ofNat_Int] at o0 q0
 unfold holdsB
 rw [← e0, ← e1, ← e2]
 cases K with
 | lin e hv hs =>
  have hs := sumB_inv hs
  have hd : acw C n_ground_compared [conV c, .own 2 0 c.vars.length c.vars.length] (HV c row) = some (.ret (.bool (relB c.rel (dotI c.coefs (valsOf c row)) c.const)), HV c row) := by
   refine acw_of_frz (CT T_ground_compared) rfl ?_ rfl (compared c (valsOf c row) (by omega) (by omega) (by omega) hs.2.1 hvs []) rfl
   have := frz_vals c row 0 (by omega) (HV c row) rfl
   show mapO (frz _ 12) _ = _
   simp only [Nat.sub_zero, List.drop_zero] at this
   simp only [mapO, this, show frz (HV c row) 12 (conV c) = some (conV c) from rfl]
  obtain ⟨kind, vars, coefs, rel, const, nums⟩ := c
  dsimp only at *
  subst e
  simp [runW_fin, F_ground_holds, i_ground_holds, k0, hd]
 | prod e hv hs =>
  have hv := varsB_inv hv
  have o1 := o 1 (by omega) [.row 1 ((valsOf c row).map (V.int .i64))]
  have o2 := o 2 (by omega) [.row 1 ((valsOf c row).map (V.int .i64))]
  rw [← e1] at o1
  rw [← e2] at o2
  simp only [Int.cast_ofNat_Int] at o1 o2
  have hm := mul_small s0 s1
  have w : IntKind.i64.wrap (v0 * v1) = v0 * v1 := wrap64 (by omega) (by omega)
  obtain ⟨kind, vars, coefs, rel, const, nums⟩ := c
  dsimp only at *
  subst e
  simp [runW_fin, F_ground_holds, i_ground_holds, k0, o0, o1, o2, w, ieq]
 | iff e hv hs =>
  have hv := varsB_inv hv
  have hs := sumB_inv hs
  have hcmp := compared c ((valsOf c row).drop 1) (by rw [List.length_drop]; omega) (by omega) (by omega) hs.2.1 (fun x hx => hvs x (List.mem_of_mem_drop hx)) []
  have hge : (1 : Int) ≤ c.vars.length := by omega
  have hge' : 1 ≤ c.vars.length := by omega
  have hd : ∀ r, dq false r (crw C y0) n_ground_compared [conV c, .own 2 1 (c.vars.length - 1) c.vars.length] (HV c row) = some (.ret (.bool (relB c.rel (dotI c.coefs ((valsOf c row).drop 1)) c.const)), HV c row) := by
   intro r
   refine dq_frz (a2 := [conV c, intsV ((valsOf c row).drop 1)]) ?_ rfl rfl hcmp rfl rfl r
   have := frz_vals c row 1 (by omega) ((HV c row).take 4096) rfl
   show mapO (frz _ 12) _ = _
   simp only [mapO, this, show frz ((HV c row).take 4096) 12 (conV c) = some (conV c) from rfl]
  obtain ⟨kind, vars, coefs, rel, const, nums⟩ := c
  dsimp only at *
  subst e
  generalize relB rel (dotI coefs ((valsOf ⟨3, vars, coefs, rel, const, nums⟩ row).drop 1)) const = is at *
  by_cases c1 : v0 = 1
  ·subst c1
   cases is <;> simp [runW_fin, F_ground_holds, i_ground_holds, k0, hd, o0, hge, hge', hlen]
  ·by_cases c2 : v0 = 0
   ·subst c2
    cases is <;> simp [runW_fin, F_ground_holds, i_ground_holds, k0, hd, o0, hge, hge', hlen]
   ·cases is <;> simp [runW_fin, F_ground_holds, i_ground_holds, k0, hd, o0, hge, hge', hlen, c1, c2, ieq]
 | elt e hv hs =>
  have hv := varsB_inv hv
  have hs := bareB_inv hs
  have q1 := q 1 (by omega) [.row 1 ((valsOf c row).map (V.int .i64))]
  rw [← e1] at q1
  simp only [Int.cast_ofNat_Int] at q1
  obtain ⟨kind, vars, coefs, rel, const, nums⟩ := c
  dsimp only at *
  subst e
  by_cases c1 : 0 ≤ v0
  ·by_cases c2 : v0 < nums.length
   ·have hlt : v0.toNat < nums.length := by omega
    have ha := at_ints (l := nums) c1 hlt
    have hg : nums.getD v0.toNat 0 = nums[v0.toNat] := by simp [hlt]
    rw [hg]
    simp [runW_fin, F_ground_holds, i_ground_holds, k0, q0, q1, c1, c2, ha, ieq]
   ·simp [runW_fin, F_ground_holds, i_ground_holds, k0, q0, q1, c1, c2, ieq]
  ·simp [runW_fin, F_ground_holds, i_ground_holds, k0, q0, q1, c1, ieq]
 | dif e hv hs =>
  have hv := varsB_inv hv
  have hsort : acw C n_slices_Sort_sint_int [.own 2 0 c.vars.length c.vars.length] (HV c row) = some (.ret (.tup []), H0 c row [.row 1 ((sortI (valsOf c row)).map (V.int .i64))]) := by
   refine acw_H rfl ?_
   have hb : c.vars.length < 4611686018427387904 := by omega
   simp [C, H, sortH, hlen, hb]
  have hcomp : acw C n_slices_Compact_sint_int [.own 2 0 c.vars.length c.vars.length] (H0 c row [.row 1 ((sortI (valsOf c row)).map (V.int .i64))]) = some (.ret (.own 2 0 (compact (sortI (valsOf c row))).length c.vars.length), H0 c row [.row 1 ((compact (sortI (valsOf c row)) ++ List.replicate ((sortI (valsOf c row)).length - (compact (sortI (valsOf c row))).length) 0).map (V.int .i64))]) := by
   refine acw_H rfl ?_
   have hb : c.vars.length < 4611686018427387904 := by omega
   have hp : 0 < c.vars.length := by omega
   simp [C, H, compH, hlen, hb, hp, sortI_length, n_slices_Sort_sint_int, n_slices_Compact_sint_int]
  have hc := comp_dec (valsOf c row)
  rw [hlen] at hc
  have hle := compact_length_le (sortI (valsOf c row))
  rw [sortI_length, hlen] at hle
  have hadd : (compact (sortI (valsOf c row))).length + (c.vars.length - (compact (sortI (valsOf c row))).length) = c.vars.length := by omega
  rw [← hc]
  have hci : ((compact (sortI (valsOf c row))).length = c.vars.length) ↔ (((compact (sortI (valsOf c row))).length : Int) = c.vars.length) := by omega
  obtain ⟨kind, vars, coefs, rel, const, nums⟩ := c
  dsimp only at *
  subst e
  simp [runW_fin, F_ground_holds, i_ground_holds, k0, hsort, hcomp, hlen, sortI_length, hadd, ieq, hci]
 | tab e hv hs hm =>
  have hv := varsB_inv hv
  have hs := bareB_inv hs
  have hmod : c.nums.length % c.vars.length = 0 := by
   rw [Int.tmod_eq_emod_of_nonneg (by omega)] at hm
   omega
  have hdiv := Nat.div_add_mod c.nums.length c.vars.length
  rw [hmod, Nat.add_zero, Nat.mul_comm] at hdiv
  have ht := tab_loop c row (by omega) h1 (c.nums.length / c.vars.length) c.nums hdiv.symm (by omega)
  obtain ⟨kind, vars, coefs, rel, const, nums⟩ := c
  dsimp only at *
  subst e
  cases hb : tabN vars.length (valsOf ⟨6, vars, coefs, rel, const, nums⟩ row) (nums.length / vars.length) nums with
  | true =>
   simp only [hb, if_true] at ht
   simp [runW_fin, F_ground_holds, i_ground_holds, k0, ht]
  | false =>
   simp only [hb, Bool.false_eq_true, if_false] at ht
   simp [runW_fin, F_ground_holds, i_ground_holds, k0, ht]
end Go.RR.M
set_option linter.unusedVariables false
set_option linter.unusedSimpArgs false
set_option maxRecDepth 100000
set_option maxHeartbeats 8000000
namespace Go.RR
def c150 (c : Con) : Prop := c.vars.length ≤ 150 ∧ c.coefs.length ≤ 150 ∧ c.nums.length ≤ 150
end Go.RR
namespace Go.RR.M
open Go Go.RR
theorem c150_len {c : Con} (h : c150 c) : lenOK c := ⟨by have := h.1; omega, by have := h.2.1; omega, by have := h.2.2; omega⟩
def gRightB (l : List Con) (row : List Int) : Bool := withinB 1048576 row && l.all fun c => rightB c row.length
def allB (l : List Con) (row : List Int) : Bool := gRightB l row && l.all fun c => holdsB c row
theorem gRight_inv {l : List Con} {row : List Int} (h : gRightB l row = true) : (∀ x ∈ row, smallI x) ∧ ∀ c ∈ l, rightB c row.length = true := by
 unfold gRightB at h
 simp only [Bool.and_eq_true, List.all_eq_true] at h
 exact ⟨fun x hx => withinB_all h.1 x hx, h.2⟩
theorem gr_loop (l : List Con) (row : List Int) (hl : row.length ≤ 4611686018427387904) : ∀ (k i : Nat), i + k = row.length →
  evw C y0 i_ground_Right_l0 [(0, consV l), (3, .ptr 0 0 0 1), (7, intsV row), (8, iv row.length), (9, iv i)] [.row 1 [intsV row]] = some (if withinB 1048576 (row.drop i) = true then (.ext 0, [(0, consV l), (3, .ptr 0 0 0 1), (7, intsV row), (8, iv row.length), (9, iv row.length), (10, .bool false)], [.row 1 [intsV row]]) else (.ret, [(4, .bool false)], [.row 1 [intsV row]])) := by
 intro k
 induction k with
 | zero =>
  intro i hi
  have : i = row.length := by omega
  subst this
  rw [r_ground_Right_0, List.drop_length]
  simp [b_ground_Right_0, withinB]
 | succ k ih =>
  intro i hi
  have hlt : i < row.length := by omega
  have hw := wrap_succ hlt (by omega)
  have ih := ih (i + 1) (by omega)
  simp only [Int.natCast_add, Int.cast_ofNat_Int] at ih
  rw [r_ground_Right_0, List.drop_eq_getElem_cons hlt]
  have e : withinB 1048576 (row[i] :: row.drop (i + 1)) = ((decide (-1048576 ≤ row[i]) && decide (row[i] ≤ 1048576)) && withinB 1048576 (row.drop (i + 1))) := rfl
  rw [e]
  by_cases c1 : row[i] < -1048576
  ·have c1' : ¬ (-1048576 ≤ row[i]) := by omega
   simp [b_ground_Right_0, hlt, c1, c1']
  have c1' : -1048576 ≤ row[i] := by omega
  by_cases c2 : 1048576 < row[i]
  ·have c2' : ¬ (row[i] ≤ 1048576) := by omega
   simp [b_ground_Right_0, hlt, c1, c1', c2, c2']
  have c2' : row[i] ≤ 1048576 := by omega
  simp only [c1', c2', decide_true, Bool.true_and, ← ih]
  simp [b_ground_Right_0, hlt, c1, c2, hw]
theorem gRight_1 (c : Con) (hc : c150 c) (row : List Int) (h : List Ob) : acw C n_ground_Right_1 [conV c, .pin (intsV row) 0] h = some (.ret (.bool (!rightB c row.length)), h) := by
 refine acw_ex (v := .bool (!rightB c row.length)) (CT T_ground_Right_1) rfl rfl (fun _ => rfl) (by simp) ?_
 have k := right c row.length (c150_len hc)
 simp [runW_fin, F_ground_Right_1, i_ground_Right_1, k]
theorem not_any_not {α : Type} (l : List α) (p : α → Bool) : (!(l.any fun c => !p c)) = l.all p := by
 induction l with
 | nil => rfl
 | cons x r ih => simp only [List.any_cons, List.all_cons, Bool.not_or, Bool.not_not, ih]
theorem gRight (l : List Con) (row : List Int) (hl : l.length ≤ 150) (hr : row.length ≤ 4611686018427387904) (hc : ∀ c ∈ l, c150 c) (h : List Ob) : acw C n_ground_Right [consV l, intsV row] h = some (.ret (.bool (gRightB l row)), h) := by
 refine acw_ex (v := .bool (gRightB l row)) (CT T_ground_Right) rfl rfl (fun _ => rfl) (by simp) ?_
 have k1 := gr_loop l row hr row.length 0 (by omega)
 simp only [List.drop_zero, Int.cast_ofNat_Int] at k1
 have k2 : acw C n_slices_ContainsFunc_sapi_Con_api_Con [consV l, .fn (.func n_ground_Right_1) [] [.ptr 0 0 0 1]] [.row 1 [intsV row]] = some (.ret (.bool (l.any fun c => !rightB c row.length)), [.row 1 [intsV row]]) :=
  containsFunc (C := C) (m := n_slices_ContainsFunc_sapi_Con_api_Con) (n := n_slices_IndexFunc_sapi_Con_api_Con) (enc := conV) (CT T_slices_IndexFunc_sapi_Con_api_Con) (CT T_slices_ContainsFunc_sapi_Con_api_Con) (g := n_ground_Right_1) (first := []) (cap := [.pin (intsV row) 0]) l (by omega) (fun _ _ => conV_elt _) (frz_box (x' := intsV row) rfl rfl) (fun _ => rfl) (p := fun c => !rightB c row.length) (fun a ha => gRight_1 a (hc a ha) row [])
 unfold gRightB
 rw [← not_any_not]
 rcases Bool.eq_false_or_eq_true (withinB 1048576 row) with e | e <;> simp only [e, Bool.false_eq_true, if_true, if_false] at k1 <;> simp only [e]
 ·simp [runW_fin, F_ground_Right, i_ground_Right, k1, k2]
 ·simp [runW_fin, F_ground_Right, i_ground_Right, k1]
theorem gAll_1 (c : Con) (row : List Int) (hk : rightB c row.length = true) (hrow : ∀ x ∈ row, smallI x) (h : List Ob) : acw C n_ground_All_1 [conV c, .pin (intsV row) 0] h = some (.ret (.bool (!holdsB c row)), h) := by
 refine acw_ex (v := .bool (!holdsB c row)) (CT T_ground_All_1) rfl rfl (fun _ => rfl) (by simp) ?_
 have k := holds c row hk hrow
 simp [runW_fin, F_ground_All_1, i_ground_All_1, k]
theorem gAll (l : List Con) (row : List Int) (hl : l.length ≤ 150) (hr : row.length ≤ 4611686018427387904) (hc : ∀ c ∈ l, c150 c) (h : List Ob) : acw C n_ground_All [consV l, intsV row] h = some (.ret (.bool (allB l row)), h) := by
 refine acw_ex (v := .bool (allB l row)) (CT T_ground_All) rfl rfl (fun _ => rfl) (by simp) ?_
 have k1 := gRight l row hl hr hc
 unfold allB
 rcases Bool.eq_false_or_eq_true (gRightB l row) with e | e
 ·obtain ⟨h1, h2⟩ := gRight_inv e
  have k2 : acw C n_slices_ContainsFunc_sapi_Con_api_Con [consV l, .fn (.func n_ground_All_1) [] [.ptr 0 0 0 1]] [.row 1 [intsV row]] = some (.ret (.bool (l.any fun c => !holdsB c row)), [.row 1 [intsV row]]) :=
   containsFunc (C := C) (m := n_slices_ContainsFunc_sapi_Con_api_Con) (n := n_slices_IndexFunc_sapi_Con_api_Con) (enc := conV) (CT T_slices_IndexFunc_sapi_Con_api_Con) (CT T_slices_ContainsFunc_sapi_Con_api_Con) (g := n_ground_All_1) (first := []) (cap := [.pin (intsV row) 0]) l (by omega) (fun _ _ => conV_elt _) (frz_box (x' := intsV row) rfl rfl) (fun _ => rfl) (p := fun c => !holdsB c row) (fun a ha => gAll_1 a row (h2 a ha) h1 [])
  rw [e] at k1
  rw [e, ← not_any_not]
  simp [runW_fin, F_ground_All, i_ground_All, k1, k2]
 ·rw [e] at k1
  rw [e]
  simp [runW_fin, F_ground_All, i_ground_All, k1]
end Go.RR.M
set_option linter.unusedVariables false
set_option linter.unusedSimpArgs false
set_option maxRecDepth 100000
set_option maxHeartbeats 8000000
namespace Go.RR
end Go.RR
namespace Go.RR.M
open Go Go.RR
end Go.RR.M
set_option linter.unusedVariables false
set_option linter.unusedSimpArgs false
set_option maxRecDepth 100000
set_option maxHeartbeats 8000000
namespace Go.RR.M
open Go Go.RR
end Go.RR.M
set_option linter.unusedVariables false
set_option linter.unusedSimpArgs false
set_option maxRecDepth 100000
set_option maxHeartbeats 8000000
namespace Go.RR.M
open Go Go.RR
end Go.RR.M
set_option linter.unusedVariables false
set_option linter.unusedSimpArgs false
set_option maxRecDepth 100000
namespace Go.RR
structure Nd where
 kind : Int
 pick : Int
 kids : List Int
 deriving DecidableEq, Inhabited
abbrev nodeV (n : Nd) : V := .agg [.int .i64 n.kind, .int .i64 n.pick, intsV n.kids]
abbrev treeV (t : List Nd) : V := .sl 3 (t.map nodeV)
/-- a tree, unfolded -/
inductive UT where
 | nd (k p : Int) (cs : List UT)
def unfF (t : List Nd) : Nat → Nat → UT
 | 0, _ => .nd 0 0 []
 | f + 1, i => match t[i]? with
  | some n => .nd n.kind n.pick (n.kids.map fun k => unfF t f k.toNat)
  | none => .nd 0 0 []
def unf (t : List Nd) (i : Nat) : UT := unfF t (i + 1) i
/-- kids stand ahead -/
def Ahd (t : List Nd) : Prop := ∀ i (h : i < t.length), ∀ k ∈ t[i].kids, 0 ≤ k ∧ k < i
theorem unfF_eq {t : List Nd} (ha : Ahd t) : ∀ (f i : Nat), i < f → unfF t f i = unf t i := by
 intro f
 induction f with
 | zero => intro i h; omega
 | succ f ih =>
  intro i h
  unfold unf
  rw [unfF, unfF]
  cases e : t[i]? with
  | none => rfl
  | some n =>
   simp only
   obtain ⟨hi, e2⟩ := List.getElem?_eq_some_iff.1 e
   congr 1
   apply List.map_congr_left
   intro k hk
   have := ha i hi k (by rw [e2]; exact hk)
   rw [ih k.toNat (by omega)]
   have h2 : k.toNat < i := by omega
   clear ih
   -- the same with less fuel
   have key : ∀ (f g j : Nat), j < f → j < g → unfF t f j = unfF t g j := by
    intro f
    induction f with
    | zero => intro g j h; omega
    | succ f ih =>
     intro g j h1 h2
     cases g with
     | zero => omega
     | succ g =>
      rw [unfF, unfF]
      cases e : t[j]? with
      | none => rfl
      | some n =>
       simp only
       obtain ⟨hj, e2⟩ := List.getElem?_eq_some_iff.1 e
       congr 1
       apply List.map_congr_left
       intro k hk
       have := ha j hj k (by rw [e2]; exact hk)
       exact ih g k.toNat (by omega) (by omega)
   exact key _ _ _ (by omega) h2
theorem unf_eq {t : List Nd} (ha : Ahd t) {i : Nat} (h : i < t.length) : unf t i = .nd t[i].kind t[i].pick (t[i].kids.map fun k => unf t k.toNat) := by
 unfold unf
 rw [unfF]
 simp only [List.getElem?_eq_getElem h]
 congr 1
 apply List.map_congr_left
 intro k hk
 have := ha i h k hk
 exact unfF_eq ha i k.toNat (by omega)
theorem Ahd.pre {t e : List Nd} (h : Ahd (t ++ e)) : Ahd t := fun i hi k hk => by
 have := h i (by rw [List.length_append]; omega) k (by rw [List.getElem_append_left hi]; exact hk)
 exact this
theorem unf_pre {t e : List Nd} (ha : Ahd (t ++ e)) : ∀ (i : Nat), i < t.length → unf (t ++ e) i = unf t i := by
 intro i
 induction i using Nat.strongRecOn with
 | _ i ih =>
  intro hi
  have hl : i < (t ++ e).length := by rw [List.length_append]; omega
  rw [unf_eq ha hl, unf_eq ha.pre hi]
  have e1 : (t ++ e)[i] = t[i] := List.getElem_append_left hi
  rw [e1]
  congr 1
  apply List.map_congr_left
  intro k hk
  have := ha.pre i hi k hk
  exact ih k.toNat (by omega) (by omega)
/-- nodes, no two of which are alike -/
structure Good (out : List Nd) : Prop where
 ahd : Ahd out
 nodup : ∀ i j (hi : i < out.length) (hj : j < out.length), out[i] = out[j] → i = j
theorem map_unf_inj {out : List Nd} {is js : List Int} (h : is.map (fun k => unf out k.toNat) = js.map (fun k => unf out k.toNat)) (hi : ∀ a ∈ is, ∀ b ∈ js, unf out a.toNat = unf out b.toNat → a = b) : is = js := by
 induction is generalizing js with
 | nil =>
  cases js with
  | nil => rfl
  | cons b js => simp at h
 | cons a is ih =>
  cases js with
  | nil => simp at h
  | cons b js =>
   simp only [List.map_cons, List.cons.injEq] at h
   rw [hi a (by simp) b (by simp) h.1, ih h.2 fun x hx y hy => hi x (by simp [hx]) y (by simp [hy])]
/-- no two of them are the same, unfolded -/
theorem Good.inj {out : List Nd} (g : Good out) : ∀ (n i j : Nat), i < n → j < n → (hi : i < out.length) → (hj : j < out.length) → unf out i = unf out j → i = j := by
 intro n
 induction n with
 | zero => intro i j h; omega
 | succ n ih =>
  intro i j hin hjn hi hj h
  rw [unf_eq g.ahd hi, unf_eq g.ahd hj] at h
  injection h with h1 h2 h3
  refine g.nodup i j hi hj ?_
  have hk : out[i].kids = out[j].kids := map_unf_inj h3 fun a ha b hb hab => by
   have ka := g.ahd i hi a ha
   have kb := g.ahd j hj b hb
   have := ih a.toNat b.toNat (by omega) (by omega) (by omega) (by omega) hab
   omega
  cases hx : out[i]
  cases hy : out[j]
  rw [hx, hy] at h1 h2 hk
  simp only at h1 h2 hk
  rw [h1, h2, hk]
/-- where a node stands, and that it stands there -/
def putN (out : List Nd) (n : Nd) : List Nd × Nat := match out.findIdx? (fun m => decide (m = n)) with
 | some i => (out, i)
 | none => (out ++ [n], out.length)
mutual
/-- a tree, put in -/
def shU : UT → List Nd → List Nd × Nat
 | .nd k p cs, out => putN (shL cs out).1 ⟨k, p, (shL cs out).2⟩
def shL : List UT → List Nd → List Nd × List Int
 | [], out => (out, [])
 | u :: r, out => ((shL r (shU u out).1).1, ((shU u out).2 : Int) :: (shL r (shU u out).1).2)
end
theorem putN_spec {out : List Nd} {n : Nd} (g : Good out) (hn : ∀ k ∈ n.kids, 0 ≤ k ∧ k < out.length) :
  Good (putN out n).1 ∧ (∃ e, (putN out n).1 = out ++ e) ∧ ∃ h : (putN out n).2 < (putN out n).1.length, (putN out n).1[(putN out n).2] = n := by
 unfold putN
 cases e : out.findIdx? (fun m => decide (m = n)) with
 | some i =>
  obtain ⟨h1, h2, h3⟩ := List.findIdx?_eq_some_iff_getElem.1 e
  exact ⟨g, ⟨[], by simp⟩, h1, by simpa using h2⟩
 | none =>
  have hno := List.findIdx?_eq_none_iff.1 e
  simp only
  refine ⟨⟨fun i hi k hk => ?_, fun i j hi hj hij => ?_⟩, ⟨[n], rfl⟩, by simp, by simp⟩
  ·simp at hi
   by_cases c : i < out.length
   ·rw [List.getElem_append_left c] at hk
    exact g.ahd i c k hk
   ·obtain rfl : i = out.length := by omega
    simp at hk
    exact hn k hk
  ·simp at hi hj
   have hx : ∀ m (hm : m < out.length), out[m] ≠ n := fun m hm e => by have := hno out[m] (List.getElem_mem hm); simp [e] at this
   by_cases ci : i < out.length
   ·by_cases cj : j < out.length
    ·rw [List.getElem_append_left ci, List.getElem_append_left cj] at hij
     exact g.nodup i j ci cj hij
    ·obtain rfl : j = out.length := by omega
     rw [List.getElem_append_left ci] at hij
     simp at hij
     exact absurd hij (hx i ci)
   ·obtain rfl : i = out.length := by omega
    by_cases cj : j < out.length
    ·rw [List.getElem_append_left cj] at hij
     simp at hij
     exact absurd hij.symm (hx j cj)
    ·omega
mutual
theorem shU_spec : ∀ (u : UT) (out : List Nd), Good out → Good (shU u out).1 ∧ (∃ e, (shU u out).1 = out ++ e) ∧ (shU u out).2 < (shU u out).1.length ∧ unf (shU u out).1 (shU u out).2 = u
 | .nd k p cs, out, g => by
  obtain ⟨g1, ⟨e1, h1⟩, h2, h3⟩ := shL_spec cs out g
  rw [shU]
  obtain ⟨g2, ⟨e2, k2⟩, k3, k4⟩ := putN_spec (n := ⟨k, p, (shL cs out).2⟩) g1 h2
  refine ⟨g2, ⟨e1 ++ e2, by rw [k2, h1, List.append_assoc]⟩, k3, ?_⟩
  rw [unf_eq g2.ahd k3, k4]
  simp only
  congr 1
  refine Eq.trans (List.map_congr_left fun a ha => ?_) h3
  have := h2 a ha
  have gg := g2.ahd
  rw [k2] at gg ⊢
  exact unf_pre gg a.toNat (by omega)
theorem shL_spec : ∀ (cs : List UT) (out : List Nd), Good out → Good (shL cs out).1 ∧ (∃ e, (shL cs out).1 = out ++ e) ∧ (∀ k ∈ (shL cs out).2, 0 ≤ k ∧ k < (shL cs out).1.length) ∧ (shL cs out).2.map (fun k => unf (shL cs out).1 k.toNat) = cs
 | [], out, g => by
  rw [shL]
  exact ⟨g, ⟨[], by simp⟩, by simp, rfl⟩
 | u :: r, out, g => by
  obtain ⟨g1, ⟨e1, h1⟩, h2, h3⟩ := shU_spec u out g
  obtain ⟨g2, ⟨e2, k1⟩, k2, k3⟩ := shL_spec r (shU u out).1 g1
  rw [shL]
  refine ⟨g2, ⟨e1 ++ e2, by rw [k1, h1, List.append_assoc]⟩, fun k hk => ?_, ?_⟩
  ·rcases List.mem_cons.1 hk with rfl | hk
   ·have : (shU u out).1.length ≤ (shL r (shU u out).1).1.length := by rw [k1, List.length_append]; omega
    show 0 ≤ ((shU u out).2 : Int) ∧ ((shU u out).2 : Int) < ((shL r (shU u out).1).1.length : Int)
    omega
   ·exact k2 k hk
  ·simp only [List.map_cons, Int.toNat_natCast]
   rw [k3]
   congr 1
   have gg := g2.ahd
   rw [k1] at gg ⊢
   rw [unf_pre gg _ h2, h3]
end
mutual
/-- what is in stays -/
theorem shU_in : ∀ (u : UT) (out : List Nd) (i : Nat), Good out → i < out.length → unf out i = u → shU u out = (out, i)
 | .nd k p cs, out, i, g, hi, h => by
  rw [unf_eq g.ahd hi] at h
  injection h with h1 h2 h3
  have hk := shL_in cs out out[i].kids g (fun a ha => by have := g.ahd i hi a ha; omega) h3
  rw [shU, hk]
  simp only
  have hn : (⟨k, p, out[i].kids⟩ : Nd) = out[i] := by cases hx : out[i]; rw [hx] at h1 h2; simp only at h1 h2; rw [h1, h2]
  rw [hn]
  unfold putN
  have : out.findIdx? (fun m => decide (m = out[i])) = some i := by
   refine List.findIdx?_eq_some_iff_getElem.2 ⟨hi, by simp, fun j hj => ?_⟩
   have hne : out[j] ≠ out[i] := fun e => by have := g.nodup j i (by omega) hi e; omega
   simp [hne]
  rw [this]
theorem shL_in : ∀ (cs : List UT) (out : List Nd) (is : List Int), Good out → (∀ k ∈ is, 0 ≤ k ∧ k < out.length) → is.map (fun k => unf out k.toNat) = cs → shL cs out = (out, is)
 | [], out, is, g, hk, h => by
  have : is = [] := List.map_eq_nil_iff.1 h
  subst this
  rw [shL]
 | u :: r, out, is, g, hk, h => by
  cases is with
  | nil => simp at h
  | cons a is =>
   simp only [List.map_cons, List.cons.injEq] at h
   have ha := hk a (by simp)
   rw [shL, shU_in u out a.toNat g (by omega) h.1, shL_in r out is g (fun k hx => hk k (by simp [hx])) h.2]
   simp only
   congr 2
   omega
end
theorem Good.nil : Good [] := ⟨fun i h => by simp at h, fun i j h => by simp at h⟩
end Go.RR
set_option linter.unusedVariables false
set_option linter.unusedSimpArgs false
set_option maxRecDepth 100000
set_option maxHeartbeats 4000000
namespace Go.RR
def fitsN (k p n : Int) : Bool := (decide (k = 0) && (decide (p = 0) && decide (n = 0))) || ((decide (k = 1) && (decide (0 ≤ p) && decide (p ≤ 63) && decide (n = 1))) || (decide (k = 2) && (decide (p = 0) && decide (1 ≤ n) && decide (n ≤ 64))))
theorem fits_len {k p : Int} {n : Nat} (h : fitsN k p n = true) : n ≤ 64 := by
 simp only [fitsN, Bool.or_eq_true, Bool.and_eq_true, decide_eq_true_eq] at h
 omega
def badK (i k : Int) : Bool := decide (k < 0) || decide (i ≤ k)
def nodeOK (i : Nat) (n : Nd) : Bool := fitsN n.kind n.pick n.kids.length && !n.kids.any (badK i)
def mayF : Nat → List Nd → Bool
 | _, [] => true
 | i, n :: r => nodeOK i n && mayF (i + 1) r
def mayT (t : List Nd) : Bool := decide (0 < t.length) && (decide (t.length ≤ 100000) && mayF 0 t)
end Go.RR
namespace Go.RR.M
open Go Go.RR
theorem tree_fits (k p n : Int) (h : List Ob) : acw C n_tree_fits [iv k, iv p, iv n] h = some (.ret (.bool (fitsN k p n)), h) := by
 refine acw_ex (v := .bool (fitsN k p n)) (CT T_tree_fits) rfl rfl (fun _ => rfl) (by simp) ?_
 by_cases c0 : k = 0
 ·subst c0
  by_cases c1 : p = 0 <;> by_cases c2 : n = 0 <;> simp [runW_fin, F_tree_fits, i_tree_fits, ieq, ine, fitsN, c1, c2]
 ·by_cases c1 : k = 1
  ·subst c1
   by_cases d1 : 0 ≤ p <;> by_cases d2 : p ≤ 63 <;> by_cases d3 : n = 1 <;> simp [runW_fin, F_tree_fits, i_tree_fits, ieq, ine, fitsN, d1, d2, d3]
  ·by_cases c2 : k = 2
   ·subst c2
    by_cases d1 : p = 0 <;> by_cases d2 : 1 ≤ n <;> by_cases d3 : n ≤ 64 <;> simp [runW_fin, F_tree_fits, i_tree_fits, ieq, ine, fitsN, d1, d2, d3]
   ·simp [runW_fin, F_tree_fits, i_tree_fits, ieq, ine, fitsN, c0, c1, c2]
theorem tree_May_1 (k i : Int) (h : List Ob) : acw C n_tree_May_1 [iv k, .pin (iv i) 0] h = some (.ret (.bool (badK i k)), h) := by
 refine acw_ex (v := .bool (badK i k)) (CT T_tree_May_1) rfl rfl (fun _ => rfl) (by simp) ?_
 by_cases c0 : k < 0 <;> by_cases c1 : i ≤ k <;> simp [runW_fin, F_tree_May_1, i_tree_May_1, badK, c0, c1]
theorem contains_kids (i : Int) (l : List Int) (hl : l.length ≤ 4611686018427387904) {a : Nat} {h : List Ob} (e : h[a]? = some (.row 1 [iv i])) : acw C n_slices_ContainsFunc_sint_int [intsV l, .fn (.func n_tree_May_1) [] [.ptr a 0 0 1]] h = some (.ret (.bool (l.any (badK i))), h) :=
 containsFunc (enc := V.int .i64) (ag := false) (sz := 1) (g := n_tree_May_1) (first := []) (cap := [.pin (iv i) 0]) (CT T_slices_IndexFunc_sint_int) (CT T_slices_ContainsFunc_sint_int) l hl (fun _ _ => elt_int) (frz_box e rfl) (fun _ => rfl) (fun a _ => tree_May_1 a i [])
theorem may_loop (t : List Nd) (hn : t.length ≤ 4611686018427387904) : ∀ (d i : Nat) (h : List Ob), i + d = t.length →
  ∃ fr' h', evw C y0 i_tree_May_l0 [(13, treeV t), (14, iv t.length), (15, iv i)] h = some (if mayF i (t.drop i) = true then (.ext 0, fr', h') else (.ret, [(2, .bool false)], h'))
 | 0, i, h, e => by
  obtain rfl : i = t.length := by omega
  rw [r_tree_May_0]
  refine ⟨[(13, treeV t), (14, iv t.length), (15, iv t.length), (16, .bool false)], h, ?_⟩
  simp [b_tree_May_0, mayF]
 | d + 1, i, h, e => by
  have hlt : i < t.length := by omega
  have h2 : (i : Int) < t.length := by omega
  have h3 : t[i]? = some t[i] := by simp [hlt]
  have hw := wrap_succ (i := i) (n := t.length) hlt (by omega)
  rw [r_tree_May_0, List.drop_eq_getElem_cons hlt]
  simp only [mayF]
  generalize t[i] = nd at *
  have kf := tree_fits nd.kind nd.pick nd.kids.length
  cases c1 : fitsN nd.kind nd.pick nd.kids.length with
  | false =>
   rw [c1] at kf
   refine ⟨[], h ++ [.row 1 [iv i], .row 3 [nodeV nd]], ?_⟩
   simp [b_tree_May_0, h2, h3, kf, nodeOK, c1]
  | true =>
   rw [c1] at kf
   have hks : nd.kids.length ≤ 4611686018427387904 := by have := fits_len c1; omega
   have kc := contains_kids (i : Int) nd.kids hks (a := h.length) (h := h ++ [.row 1 [iv i], .row 3 [nodeV nd]]) (by simp)
   cases c2 : nd.kids.any (badK i) with
   | true =>
    rw [c2] at kc
    refine ⟨[], h ++ [.row 1 [iv i], .row 3 [nodeV nd]], ?_⟩
    simp [b_tree_May_0, h2, h3, kf, nodeOK, c1, c2, kc]
   | false =>
    rw [c2] at kc
    obtain ⟨fr', h', ih⟩ := may_loop t hn d (i + 1) (h ++ [.row 1 [iv i], .row 3 [nodeV nd]]) (by omega)
    simp only [Int.natCast_add, Int.cast_ofNat_Int] at ih
    refine ⟨fr', h', ?_⟩
    have e0 : nodeOK i nd = true := by simp only [nodeOK, c1, c2]; rfl
    simp only [e0, Bool.true_and]
    rw [← ih]
    simp [b_tree_May_0, h2, h3, kf, kc, hw]
theorem tree_May (t : List Nd) (hn : t.length ≤ 4611686018427387904) (h : List Ob) : acw C n_tree_May [treeV t] h = some (.ret (.bool (mayT t)), h) := by
 refine acw_ex (v := .bool (mayT t)) (CT T_tree_May) rfl rfl (fun _ => rfl) (by simp) ?_
 by_cases c1 : t = []
 ·subst c1
  simp [runW_fin, F_tree_May, i_tree_May, mayT]
 ·have c1' : 0 < t.length := List.length_pos_iff.2 c1
  have c2' : ¬ t.length = 0 := by omega
  have c1i : ¬ ((t.length : Int) = 0) := by omega
  by_cases c3 : t.length ≤ 100000
  ·have c3' : ¬ (100000 < (t.length : Int)) := by omega
   have c3n : ¬ (100000 < t.length) := by omega
   obtain ⟨fr', h', lp⟩ := may_loop t hn t.length 0 [] (by omega)
   simp only [List.drop_zero, Int.cast_ofNat_Int] at lp
   cases c4 : mayF 0 t with
   | true =>
    simp only [c4, if_true] at lp
    simp [runW_fin, F_tree_May, i_tree_May, mayT, ieq, c1, c1', c2', c1i, c3, c3', c3n, c4, lp]
   | false =>
    simp only [c4, Bool.false_eq_true, if_false] at lp
    simp [runW_fin, F_tree_May, i_tree_May, mayT, ieq, c1, c1', c2', c1i, c3, c3', c3n, c4, lp]
  ·have c3' : 100000 < (t.length : Int) := by omega
   have c3n : 100000 < t.length := by omega
   simp [runW_fin, F_tree_May, i_tree_May, mayT, ieq, c1, c1', c2', c1i, c3, c3', c3n]
end Go.RR.M
set_option linter.unusedVariables false
set_option linter.unusedSimpArgs false
set_option maxRecDepth 100000
set_option maxHeartbeats 4000000
namespace Go.RR.M
open Go Go.RR
theorem nodeV_fz (n : Nd) : Fz (nodeV n) := Fz.agg rfl
theorem frz_nodes (h : List Ob) (n : Nat) (t : List Nd) : mapO (frz h (n + 4)) (t.map nodeV) = some (t.map nodeV) := mapO_id fun x hx => by
 obtain ⟨a, -, rfl⟩ := List.mem_map.1 hx
 exact nodeV_fz a h n
end Go.RR.M
set_option linter.unusedVariables false
set_option linter.unusedSimpArgs false
set_option maxRecDepth 100000
set_option maxHeartbeats 4000000
namespace Go.RR
theorem Nd.ext' {a b : Nd} (h1 : a.kind = b.kind) (h2 : a.pick = b.pick) (h3 : a.kids = b.kids) : a = b := by
 cases a; cases b; simp only at h1 h2 h3; rw [h1, h2, h3]
end Go.RR
namespace Go.RR.M
open Go Go.RR
end Go.RR.M
set_option linter.unusedVariables false
set_option linter.unusedSimpArgs false
set_option maxRecDepth 100000
set_option maxHeartbeats 4000000
namespace Go.RR
mutual
def foldU (G : List Int → Int) : UT → Int
 | .nd _ _ cs => G (foldL G cs)
def foldL (G : List Int → Int) : List UT → List Int
 | [] => []
 | u :: r => foldU G u :: foldL G r
end
theorem mayF_at : ∀ (t : List Nd) (i : Nat), mayF i t = true → ∀ j (h : j < t.length), nodeOK (i + j) t[j] = true
 | [], i, _, j, h => by simp at h
 | n :: r, i, e, j, h => by
  simp only [mayF, Bool.and_eq_true] at e
  cases j with
  | zero => exact e.1
  | succ j =>
   have := mayF_at r (i + 1) e.2 j (by simpa using h)
   rw [show i + (j + 1) = i + 1 + j by omega]
   exact this
theorem mayF_of : ∀ (t : List Nd) (i : Nat), (∀ j (h : j < t.length), nodeOK (i + j) t[j] = true) → mayF i t = true
 | [], i, _ => rfl
 | n :: r, i, e => by
  simp only [mayF, Bool.and_eq_true]
  refine ⟨e 0 (by simp), mayF_of r (i + 1) fun j h => ?_⟩
  have := e (j + 1) (by simpa using h)
  rw [show i + 1 + j = i + (j + 1) by omega]
  exact this
theorem mayT_iff {t : List Nd} : mayT t = true ↔ 0 < t.length ∧ t.length ≤ 100000 ∧ ∀ j (h : j < t.length), nodeOK j t[j] = true := by
 simp only [mayT, Bool.and_eq_true, decide_eq_true_eq]
 constructor
 ·rintro ⟨h1, h2, h3⟩
  exact ⟨h1, h2, fun j h => by have := mayF_at t 0 h3 j h; rwa [Nat.zero_add] at this⟩
 ·rintro ⟨h1, h2, h3⟩
  exact ⟨h1, h2, mayF_of t 0 fun j h => by rw [Nat.zero_add]; exact h3 j h⟩
theorem nodeOK_iff {i : Nat} {n : Nd} : nodeOK i n = true ↔ fitsN n.kind n.pick n.kids.length = true ∧ ∀ k ∈ n.kids, 0 ≤ k ∧ k < i := by
 simp only [nodeOK, Bool.and_eq_true, Bool.not_eq_true', List.any_eq_false, badK, Bool.or_eq_true, decide_eq_true_eq]
 constructor
 ·rintro ⟨h1, h2⟩
  exact ⟨h1, fun k hk => by have := h2 k hk; omega⟩
 ·rintro ⟨h1, h2⟩
  exact ⟨h1, fun k hk => by have := h2 k hk; omega⟩
theorem fits_kids {k p : Int} {n : Nat} (h : fitsN k p n = true) : n ≤ 64 := by
 simp only [fitsN, Bool.or_eq_true, Bool.and_eq_true, decide_eq_true_eq] at h
 omega
theorem fits_kp {k p n : Int} (h : fitsN k p n = true) : 0 ≤ k ∧ k ≤ 2 ∧ 0 ≤ p ∧ p ≤ 63 := by
 simp only [fitsN, Bool.or_eq_true, Bool.and_eq_true, decide_eq_true_eq] at h
 omega
theorem mayT_len {t : List Nd} (h : mayT t = true) : 0 < t.length ∧ t.length ≤ 100000 := ⟨(mayT_iff.1 h).1, (mayT_iff.1 h).2.1⟩
theorem mayT_ahd {t : List Nd} (h : mayT t = true) : Ahd t := fun i hi => (nodeOK_iff.1 ((mayT_iff.1 h).2.2 i hi)).2
theorem mayT_fits {t : List Nd} (h : mayT t = true) : ∀ i (hi : i < t.length), fitsN t[i].kind t[i].pick t[i].kids.length = true := fun i hi => (nodeOK_iff.1 ((mayT_iff.1 h).2.2 i hi)).1
theorem mayT_kids {t : List Nd} (h : mayT t = true) : ∀ i (hi : i < t.length), t[i].kids.length ≤ 64 := fun i hi => fits_kids (mayT_fits h i hi)
/-- what the first nodes have -/
def vals (G : List Int → Int) (t : List Nd) (i : Nat) : List V := (List.range i).map fun j => iv (foldU G (unf t j))
end Go.RR
namespace Go.RR.M
open Go Go.RR
end Go.RR.M
set_option linter.unusedVariables false
set_option linter.unusedSimpArgs false
set_option maxRecDepth 100000
set_option maxHeartbeats 4000000
namespace Go.RR
end Go.RR
namespace Go.RR.M
open Go Go.RR
def kv (G : List Int → Int) (t : List Nd) (ks : List Int) : List Int := ks.map fun k => foldU G (unf t k.toNat)
end Go.RR.M
set_option linter.unusedVariables false
set_option linter.unusedSimpArgs false
set_option maxRecDepth 100000
namespace Go.RR
open Go.Lib
theorem dec_byte : ∀ (u : Nat), ∀ c ∈ decDigits u, 48 ≤ c.toNat ∧ c.toNat ≤ 57 := by
 intro u
 induction u using Nat.strongRecOn with
 | _ u ih =>
  intro c hc
  rw [decDigits] at hc
  by_cases h : u < 10
  ·rw [dif_pos h] at hc
   rw [List.mem_singleton.1 hc, UInt8.toNat_ofNat']
   omega
  ·rw [dif_neg h] at hc
   rcases List.mem_append.1 hc with hc | hc
   ·exact ih (u / 10) (by omega) c hc
   ·rw [List.mem_singleton.1 hc, UInt8.toNat_ofNat']
    omega
def valB (l : List UInt8) : Nat := l.foldl (fun a c => a * 10 + (c.toNat - 48)) 0
theorem dec_val : ∀ (u : Nat), valB (decDigits u) = u := by
 intro u
 induction u using Nat.strongRecOn with
 | _ u ih =>
  rw [decDigits]
  by_cases h : u < 10
  ·rw [dif_pos h]
   simp only [valB, List.foldl_cons, List.foldl_nil, UInt8.toNat_ofNat']
   omega
  ·rw [dif_neg h]
   have := ih (u / 10) (by omega)
   unfold valB at this ⊢
   rw [List.foldl_append, this]
   simp only [List.foldl_cons, List.foldl_nil, UInt8.toNat_ofNat']
   omega
theorem dec_inj {a b : Nat} (h : decDigits a = decDigits b) : a = b := by rw [← dec_val a, h, dec_val]
theorem itoa_inj {a b : Int} (h : itoa a = itoa b) : a = b := by
 unfold itoa at h
 have no : ∀ (x y : Nat), (45 : UInt8) :: decDigits x ≠ decDigits y := fun x y e => by
  have := dec_byte y 45 (by rw [← e]; simp)
  simp at this
 split at h <;> split at h
 ·have := dec_inj (List.cons.inj h).2
  omega
 ·exact absurd h (no _ _)
 ·exact absurd h.symm (no _ _)
 ·have := dec_inj h
  omega
/-- a sign, or a digit -/
def dgt (c : UInt8) : Prop := c ≠ 32 ∧ c ≠ 40 ∧ c ≠ 41
theorem itoa_dgt (n : Int) : ∀ c ∈ itoa n, dgt c := by
 have key : ∀ u, ∀ c ∈ decDigits u, dgt c := fun u c hc => by
  have := dec_byte u c hc
  refine ⟨?_, ?_, ?_⟩ <;> (intro e; subst e; simp at this)
 intro c hc
 unfold itoa at hc
 split at hc
 ·rcases List.mem_cons.1 hc with rfl | hc
  ·unfold dgt; decide
  ·exact key _ c hc
 ·exact key _ c hc
theorem cutB {P : UInt8 → Prop} : ∀ {a b X Y : List UInt8}, (∀ c ∈ a, P c) → (∀ c ∈ b, P c) → (∀ x ∈ X.head?, ¬ P x) → (∀ x ∈ Y.head?, ¬ P x) → a ++ X = b ++ Y → a = b ∧ X = Y
 | [], [], X, Y, _, _, _, _, h => ⟨rfl, h⟩
 | [], y :: b, X, Y, _, hb, hX, _, h => by
  have h : X = y :: (b ++ Y) := h
  exact absurd (hb y (by simp)) (hX y (by rw [h]; rfl))
 | x :: a, [], X, Y, ha, _, _, hY, h => by
  have h : x :: (a ++ X) = Y := h
  exact absurd (ha x (by simp)) (hY x (by rw [← h]; rfl))
 | x :: a, y :: b, X, Y, ha, hb, hX, hY, h => by
  have h : x :: (a ++ X) = y :: (b ++ Y) := h
  obtain ⟨h1, h2⟩ := List.cons.inj h
  obtain ⟨h3, h4⟩ := cutB (fun c hc => ha c (by simp [hc])) (fun c hc => hb c (by simp [hc])) hX hY h2
  exact ⟨by rw [h1, h3], h4⟩
def tlB : List Int → List UInt8
 | [] => []
 | k :: r => 32 :: (itoa k ++ tlB r)
theorem catB_eq : ∀ (l : List Int) (b : List UInt8), catB b l = b ++ tlB l
 | [], b => by simp [catB, tlB]
 | k :: r, b => by
  have := catB_eq r (b ++ (32 :: itoa k))
  unfold catB at this ⊢
  rw [List.foldl_cons, this, tlB]
  simp
theorem tlB_head (l : List Int) : ∀ x ∈ (tlB l).head?, ¬ dgt x := by
 cases l with
 | nil => simp [tlB]
 | cons k r => intro x hx; simp [tlB] at hx; subst hx; unfold dgt; decide
theorem tlB_inj : ∀ {a b : List Int}, tlB a = tlB b → a = b
 | [], [], _ => rfl
 | [], y :: b, h => by simp [tlB] at h
 | x :: a, [], h => by simp [tlB] at h
 | x :: a, y :: b, h => by
  obtain ⟨h1, h2⟩ := cutB (itoa_dgt x) (itoa_dgt y) (tlB_head a) (tlB_head b) (List.cons.inj h).2
  rw [itoa_inj h1, tlB_inj h2]
theorem textB_inj {k p k' p' : Int} {l l' : List Int} (h : textB k p l = textB k' p' l') : k = k' ∧ p = p' ∧ l = l' := by
 unfold textB at h
 rw [catB_eq, catB_eq] at h
 simp only [List.append_assoc] at h
 have z : ∀ x ∈ ([32] : List UInt8).head?, ¬ dgt x := by intro x hx; simp at hx; subst hx; unfold dgt; decide
 obtain ⟨h1, h2⟩ := cutB (itoa_dgt k) (itoa_dgt k') (X := [32] ++ (itoa p ++ tlB l)) (Y := [32] ++ (itoa p' ++ tlB l')) (by intro x hx; exact z x (by simpa using hx)) (by intro x hx; exact z x (by simpa using hx)) h
 obtain ⟨h3, h4⟩ := cutB (itoa_dgt p) (itoa_dgt p') (tlB_head l) (tlB_head l') (List.cons.inj h2).2
 exact ⟨itoa_inj h1, itoa_inj h3, tlB_inj h4⟩
end Go.RR
set_option linter.unusedVariables false
set_option linter.unusedSimpArgs false
set_option maxRecDepth 100000
namespace Go.RR
/-- trees with all their kids -/
def Cl (L : List UT) : Prop := ∀ k p cs, UT.nd k p cs ∈ L → ∀ c ∈ cs, c ∈ L
/-- all that is left is of these trees -/
def Sub (L : List UT) (out : List Nd) : Prop := ∀ i, i < out.length → unf out i ∈ L
theorem nodup_sub {α : Type} : ∀ (xs L : List α), xs.Nodup → (∀ x ∈ xs, x ∈ L) → xs.length ≤ L.length
 | [], L, _, _ => by simp
 | x :: r, L, hn, h => by
  obtain ⟨a, b, rfl⟩ := List.append_of_mem (h x (by simp))
  have hn := List.nodup_cons.1 hn
  have := nodup_sub r (a ++ b) hn.2 fun y hy => by
   have h2 := h y (by simp [hy])
   rcases List.mem_append.1 h2 with h3 | h3
   ·exact List.mem_append_left _ h3
   ·rcases List.mem_cons.1 h3 with h4 | h4
    ·subst h4; exact absurd hy hn.1
    ·exact List.mem_append_right _ h4
  simp only [List.length_append, List.length_cons] at this ⊢
  omega
theorem Sub.len {L : List UT} {out : List Nd} (g : Good out) (s : Sub L out) : out.length ≤ L.length := by
 have := nodup_sub ((List.range out.length).map (unf out)) L (by
  refine List.Pairwise.map (R := fun a b => a < b ∧ b < out.length) _ (fun a b h e => ?_) ?_
  ·have := Good.inj g out.length a b (by omega) (by omega) (by omega) (by omega) e
   omega
  ·refine List.Pairwise.imp_of_mem (R := (· < ·)) (fun {a b} ha hb h => ⟨h, List.mem_range.1 hb⟩) List.pairwise_lt_range) (fun x hx => by
  obtain ⟨i, hi, rfl⟩ := List.mem_map.1 hx
  exact s i (List.mem_range.1 hi))
 simpa using this
mutual
theorem shU_sub (L : List UT) (hc : Cl L) : ∀ (u : UT) (out : List Nd), Good out → Sub L out → u ∈ L → Sub L (shU u out).1
 | .nd k p cs, out, g, s, hu => by
  have s1 := shL_sub L hc cs out g s (hc k p cs hu)
  obtain ⟨g1, -, h2, -⟩ := shL_spec cs out g
  obtain ⟨g2, -, h3, h4⟩ := shU_spec (.nd k p cs) out g
  obtain ⟨-, ⟨e, he⟩, -⟩ := putN_spec (n := ⟨k, p, (shL cs out).2⟩) g1 h2
  intro i hi
  by_cases c : i < (shL cs out).1.length
  ·have e1 : (shU (.nd k p cs) out).1 = (shL cs out).1 ++ e := by rw [shU]; exact he
   have g2 := g2.ahd
   rw [e1] at g2 ⊢
   rw [unf_pre g2 i c]
   exact s1 i c
  ·have : i = (shU (.nd k p cs) out).2 := by
    rw [shU] at h3 hi ⊢
    unfold putN at h3 hi ⊢
    split at h3
    ·rename_i j hj
     simp only [hj] at hi ⊢
     omega
    ·rename_i hj
     simp only [hj, List.length_append, List.length_singleton] at hi ⊢
     omega
   rw [this, h4]
   exact hu
theorem shL_sub (L : List UT) (hc : Cl L) : ∀ (cs : List UT) (out : List Nd), Good out → Sub L out → (∀ c ∈ cs, c ∈ L) → Sub L (shL cs out).1
 | [], out, g, s, h => by rw [shL]; exact s
 | u :: r, out, g, s, h => by
  have s1 := shU_sub L hc u out g s (h u (by simp))
  have g1 := (shU_spec u out g).1
  have := shL_sub L hc r (shU u out).1 g1 s1 fun c hc => h c (by simp [hc])
  rw [shL]
  exact this
end
/-- all trees of some nodes -/
def alls (t : List Nd) : List UT := (List.range t.length).map (unf t)
theorem alls_cl {t : List Nd} (ha : Ahd t) : Cl (alls t) := by
 intro k p cs h c hc
 obtain ⟨i, hi, e⟩ := List.mem_map.1 h
 have hi := List.mem_range.1 hi
 rw [unf_eq ha hi] at e
 injection e with e1 e2 e3
 subst e3
 obtain ⟨m, hm, rfl⟩ := List.mem_map.1 hc
 have := ha i hi m hm
 exact List.mem_map.2 ⟨m.toNat, List.mem_range.2 (by omega), rfl⟩
theorem alls_mem {t : List Nd} {i : Nat} (h : i < t.length) : unf t i ∈ alls t := List.mem_map.2 ⟨i, List.mem_range.2 h, rfl⟩
theorem alls_len {t : List Nd} : (alls t).length = t.length := by simp [alls]
theorem Cl.app {L M : List UT} (a : Cl L) (b : Cl M) : Cl (L ++ M) := fun k p cs h c hc => by
 rcases List.mem_append.1 h with h | h
 ·exact List.mem_append_left _ (a k p cs h c hc)
 ·exact List.mem_append_right _ (b k p cs h c hc)
theorem Sub.nil {L : List UT} : Sub L [] := fun i h => by simp at h
theorem put_new {k p : Int} {cs : List UT} {out : List Nd} (g : Good out) (e : ∀ m, m < (shL cs out).1.length → unf (shL cs out).1 m ≠ .nd k p cs) : shU (.nd k p cs) out = ((shL cs out).1 ++ [⟨k, p, (shL cs out).2⟩], (shL cs out).1.length) := by
 obtain ⟨g1, -, h2, h3⟩ := shL_spec cs out g
 rw [shU]
 unfold putN
 cases h : (shL cs out).1.findIdx? (fun m => decide (m = ⟨k, p, (shL cs out).2⟩)) with
 | none => rfl
 | some i =>
  obtain ⟨q1, q2, -⟩ := List.findIdx?_eq_some_iff_getElem.1 h
  refine absurd ?_ (e i q1)
  rw [unf_eq g1.ahd q1, of_decide_eq_true q2]
  simp only [h3]
end Go.RR
set_option linter.unusedVariables false
set_option linter.unusedSimpArgs false
set_option maxRecDepth 100000
set_option maxHeartbeats 4000000
namespace Go.RR.M
open Go Go.RR Go.Lib
end Go.RR.M
set_option linter.unusedVariables false
set_option linter.unusedSimpArgs false
set_option maxRecDepth 100000
set_option maxHeartbeats 4000000
namespace Go.RR.M
open Go Go.RR Go.Lib
end Go.RR.M
set_option linter.unusedVariables false
set_option linter.unusedSimpArgs false
set_option maxRecDepth 100000
set_option maxHeartbeats 4000000
namespace Go.RR
end Go.RR
namespace Go.RR.M
open Go Go.RR Go.Lib
end Go.RR.M
set_option linter.unusedVariables false
set_option linter.unusedSimpArgs false
set_option maxRecDepth 100000
set_option maxHeartbeats 4000000
namespace Go.RR
def tx (n : Nd) : List UInt8 := textB n.kind n.pick n.kids
theorem tx_inj {a b : Nd} (h : tx a = tx b) : a = b := by
 obtain ⟨h1, h2, h3⟩ := textB_inj h
 cases a; cases b; simp only at h1 h2 h3; rw [h1, h2, h3]
/-- what stands here, by its texts -/
def esF : List Nd → Nat → List (V × V × Nat)
 | [], _ => []
 | m :: r, j => (.str (tx m), iv ((j : Int) + 1), j) :: esF r (j + 1)
theorem esF_app : ∀ (l : List Nd) (j : Nat) (n : Nd), esF (l ++ [n]) j = esF l j ++ [(.str (tx n), iv (((j + l.length : Nat) : Int) + 1), j + l.length)]
 | [], j, n => by simp [esF]
 | m :: r, j, n => by
  have := esF_app r (j + 1) n
  simp only [List.cons_append, esF, this, List.length_cons]
  rw [show j + 1 + r.length = j + (r.length + 1) by omega]
theorem mfind_es (n : Nd) : ∀ (l : List Nd) (j : Nat), mfind (.str (tx n)) (esF l j) j = some ((l.findIdx? fun m => decide (m = n)).map fun i => (j + i, iv (((j + i : Nat) : Int) + 1)))
 | [], j => rfl
 | m :: r, j => by
  simp only [esF, mfind, keyEq]
  rw [List.findIdx?_cons]
  by_cases c : m = n
  ·subst c
   simp
  ·have c2 : ¬ (tx n = tx m) := fun e => c (tx_inj e).symm
   have c3 : (tx n == tx m) = false := by simpa using c2
   have c4 : decide (m = n) = false := by simpa using c
   rw [c3, c4]
   simp only [Bool.false_eq_true, if_false]
   rw [mfind_es n r (j + 1)]
   cases r.findIdx? fun m => decide (m = n) with
   | none => rfl
   | some i =>
    simp only [Option.map_some]
    rw [show j + 1 + i = j + (i + 1) by omega]
/-- what puts together, in memory -/
structure Shr (h : List Ob) (sid mid : Nat) (ov : V) (out : List Nd) : Prop where
 s : h[sid]? = some (.row 2 [.agg [ov, .mp mid]])
 m : h[mid]? = some (.map (esF out 0) out.length)
 o : AccB 0 h ov 3 (out.map nodeV)
def oidV : V → Option Nat
 | .own id _ _ _ => some id
 | _ => none
/-- all else stays -/
structure Keep (h h' : List Ob) (sid mid did : Nat) (ov ov' : V) : Prop where
 k : ∀ j, j < h.length → j ≠ sid → j ≠ mid → j ≠ did → oidV ov ≠ some j → h'[j]? = h[j]?
 l : h.length ≤ h'.length
 o : oidV ov' = oidV ov ∨ ∃ id, oidV ov' = some id ∧ h.length ≤ id
theorem Keep.refl {h : List Ob} {sid mid did : Nat} {ov : V} : Keep h h sid mid did ov ov := ⟨fun _ _ _ _ _ _ => rfl, Nat.le_refl _, .inl rfl⟩
theorem Keep.trans {h h1 h2 : List Ob} {sid mid did : Nat} {ov ov1 ov2 : V} (a : Keep h h1 sid mid did ov ov1) (b : Keep h1 h2 sid mid did ov1 ov2) : Keep h h2 sid mid did ov ov2 := by
 refine ⟨fun j hj h1 h2 h3 h4 => ?_, Nat.le_trans a.l b.l, ?_⟩
 ·rw [b.k j (Nat.lt_of_lt_of_le hj a.l) h1 h2 h3 ?_, a.k j hj h1 h2 h3 h4]
  rcases a.o with e | ⟨id, e, he⟩
  ·rw [e]; exact h4
  ·rw [e]; intro e2; cases e2; omega
 ·rcases b.o with e | ⟨id, e, he⟩
  ·rw [e]; exact a.o
  ·exact .inr ⟨id, e, Nat.le_trans a.l he⟩
/-- own memory of before is not that of what puts together -/
theorem AccB.oid {B : Nat} {h : List Ob} {v : V} {z : Nat} {xs : List V} (a : AccB B h v z xs) {j : Nat} (e : oidV v = some j) : h[j]? = some (.row z xs) := by
 rcases a with ⟨rfl, -⟩ | ⟨id, -, rfl, e2⟩
 ·cases e
 ·cases e; exact e2
/-- appending writes one's own row, or a new one -/
theorem AccB.app2 {B : Nat} {h : List Ob} {v y : V} {z b : Nat} {xs ys : List V} (a : AccB B h v z xs) (hB : B ≤ h.length) (hy : src h y = some (z, ys)) (h1 : (xs.length + ys.length) * b ≤ 70368744177664) (h2 : xs.length + ys.length ≤ 70368744177664) :
  ∃ v' w, appV h.length h z b v y = some (v', w) ∧ AccB B (wr h w) v' z (xs ++ ys) ∧ (∀ j, j < h.length → oidV v ≠ some j → (wr h w)[j]? = h[j]?) ∧ (oidV v' = oidV v ∨ oidV v' = some h.length) ∧ h.length ≤ (wr h w).length := by
 unfold appV
 simp only [op1, ev_c, hy, if_true]
 rcases a with ⟨rfl, rfl⟩ | ⟨id, hid, rfl, e⟩
 ·by_cases hys : ys = []
  ·subst hys
   exact ⟨.nsl z, none, by simp, .inl ⟨rfl, rfl⟩, fun _ _ _ => rfl, .inl rfl, wr_length _ _⟩
  ·simp only [hys, if_false]
   simp only [List.length_nil, Nat.zero_add] at h1 h2
   rw [if_pos ⟨h1, h2⟩]
   exact ⟨_, _, rfl, .inr ⟨h.length, hB, by simp, by simp⟩, fun j hj _ => by rw [wr_len, get_lt hj], .inr rfl, wr_length _ _⟩
 ·by_cases hys : ys = []
  ·subst hys
   exact ⟨.own id 0 xs.length xs.length, none, by simp [rowOf, e], .inr ⟨id, hid, by simp, by simpa using e⟩, fun _ _ _ => rfl, .inl rfl, wr_length _ _⟩
  ·simp only [rowOf, e, if_true, hys, if_false, Nat.zero_add, true_and]
   rw [if_pos ⟨h1, h2⟩]
   have hl := (List.getElem?_eq_some_iff.1 e).1
   refine ⟨_, _, rfl, .inr ⟨id, hid, by simp, by simp [wr, hl, comb]⟩, fun j hj ho => ?_, .inl rfl, wr_length _ _⟩
   have hne : id ≠ j := fun q => ho (by rw [q]; rfl)
   rw [wr_lt hl, List.getElem?_set_ne hne]
/-- numbers that a node has -/
def NdB (n : Nd) : Prop := I64 n.kind ∧ I64 n.pick ∧ (∀ k ∈ n.kids, I64 k) ∧ n.kids.length ≤ 1000000
end Go.RR
namespace Go.RR.M
open Go Go.RR Go.Lib
theorem tree_text (n : Nd) (hn : NdB n) (kv : V) (hk : kv = intsV n.kids ∨ (kv = .nsl 1 ∧ n.kids = [])) (h : List Ob) : acw C n_tree_text [.agg [iv n.kind, iv n.pick, kv]] h = some (.ret (.str (tx n)), h) := by
 obtain ⟨h1, h2, h3, h4⟩ := hn
 have e : s_text [nodeV n] = some (.str (tx n)) := by
  have a1 : i64B n.kind = true := by simp only [i64B, Bool.and_eq_true, decide_eq_true_eq]; exact h1
  have a2 : i64B n.pick = true := by simp only [i64B, Bool.and_eq_true, decide_eq_true_eq]; exact h2
  have a3 : n.kids.all i64B = true := List.all_eq_true.2 fun k hk => by simp only [i64B, Bool.and_eq_true, decide_eq_true_eq]; exact h3 k hk
  have a4 : ints (n.kids.map (V.int .i64)) = some n.kids := by
   generalize n.kids = l
   induction l with
   | nil => rfl
   | cons x r ih => simp [ints, ih]
  simp only [s_text, a4, a1, a2, a3, h4, decide_true, Bool.and_self, if_true]
  rfl
 refine acw_S (a2 := [nodeV n]) rfl rfl ?_ ?_ (by simp)
 ·rcases hk with rfl | ⟨rfl, hk⟩
  ·rfl
  ·rw [nodeV, hk]; rfl
 ·simp only [C, S, if_true]
  exact e
theorem o_lku {nid id c i : Nat} {h : List Ob} {ks : Option IntKind} {z key v : V} {es : List (V × V × Nat)} (e : h[id]? = some (.map es c)) (k : isKey ks key = true) (f : mfind key es 0 = some (some (i, v))) : opJ nid h (.lku ks z false) [.mp id, key] = some (v, none) := by
 simp [opJ, mapOf, e, k, f, lkr]
theorem o_lku0 {nid id c : Nat} {h : List Ob} {ks : Option IntKind} {z key : V} {es : List (V × V × Nat)} (e : h[id]? = some (.map es c)) (k : isKey ks key = true) (f : mfind key es 0 = some none) : opJ nid h (.lku ks z false) [.mp id, key] = some (z, none) := by
 simp [opJ, mapOf, e, k, f, lkr]
theorem o_mpu {nid id c : Nat} {h : List Ob} {ks : Option IntKind} {key v : V} {es : List (V × V × Nat)} (e : h[id]? = some (.map es c)) (k : isKey ks key = true) (hv : v.isUnd = false) (hv2 : v.isTup = false) (f : mfind key es 0 = some none) : opJ nid h (.mpu ks) [.mp id, key, v] = some (.und, some (id, .map (es ++ [(key, v, c)]) (c + 1))) := by
 simp [opJ, mapOf, e, k, f, hv, hv2]
theorem put (n : Nd) (hn : NdB n) (kv : V) (hk : kv = intsV n.kids ∨ (kv = .nsl 1 ∧ n.kids = [])) (h : List Ob) (sid mid : Nat) (ov : V) (out : List Nd) (s : Shr h sid mid ov out) (hl : out.length ≤ 1000000) (did : Nat) :
  ∃ ov' h', acw C n_tree_sharer_put [.ptr sid 0 0 1, .agg [iv n.kind, iv n.pick, kv]] h = some (.ret (iv (putN out n).2), h') ∧ Shr h' sid mid ov' (putN out n).1 ∧ Keep h h' sid mid did ov ov' ∧ (did < h.length → did ≠ sid → did ≠ mid → oidV ov ≠ some did → h'[did]? = h[did]?) := by
 obtain ⟨s1, s2, s3⟩ := s
 have kt := tree_text n hn kv hk
 have kb : bsfL (.agg [.int .i64 0, .int .i64 0, .nsl 1]) [.agg [iv n.kind, iv n.pick, kv]] = some (.sl 3 [nodeV n]) := by
  rcases hk with rfl | ⟨rfl, hk⟩
  ·rfl
  ·rw [nodeV, hk]; rfl
 have hs1 := (List.getElem?_eq_some_iff.1 s1).1
 have hs2 := (List.getElem?_eq_some_iff.1 s2).1
 have hne : sid ≠ mid := fun e => by subst e; rw [s1] at s2; cases s2
 have g1 : ∀ l, (h ++ l)[sid]? = some (.row 2 [.agg [ov, .mp mid]]) := fun l => get_some s1
 have g2 : ∀ l, (h ++ l)[mid]? = some (.map (esF out 0) out.length) := fun l => get_some s2
 have mf := mfind_es n out 0
 unfold putN
 obtain ⟨Z, hZ⟩ : ∃ Z, Z = V.agg [iv n.kind, iv n.pick, kv] := ⟨_, rfl⟩
 have hZc : Z.size = 3 ∧ Z.isTup = false ∧ Z.isUnd = false ∧ Z.cells.length = 3 ∧ (.agg Z.cells = Z) := by rw [hZ]; exact ⟨rfl, rfl, rfl, rfl, rfl⟩
 obtain ⟨z1, z2, z3, z4, z5⟩ := hZc
 obtain ⟨q1, q2, q3, q4⟩ := s3.good
 cases hf : out.findIdx? (fun m => decide (m = n)) with
 | some i =>
  rw [hf] at mf
  simp only [Option.map_some, Nat.zero_add] at mf
  have hi := (List.findIdx?_eq_some_iff_getElem.1 hf).1
  have c1 : ¬ ((i : Int) + 1 = 0) := by omega
  have w1 : IntKind.i64.wrap (i : Int) = i := wrap64 (by omega) (by omega)
  refine ⟨ov, h ++ [.row 3 [Z]], ?_, ⟨g1 _, g2 _, s3.more⟩, ⟨fun j hj _ _ _ _ => get_lt hj, by simp, .inl rfl⟩, fun hd _ _ _ => get_lt hd⟩
  rw [acw_hm (CT T_tree_sharer_put) rfl]
  have kl : ∀ nid (l : List Ob), opJ nid (h ++ l) (.lku none (.int .i64 0) false) [.mp mid, .str (tx n)] = some (.int .i64 ((i : Int) + 1), none) := fun nid l => o_lku (g2 l) rfl mf
  subst hZ
  simp [runW_fin, F_tree_sharer_put, i_tree_sharer_put, kt, g1, kl, c1, w1, ieq, q1, q2, q3, q4]
 | none =>
  rw [hf] at mf
  simp only [Option.map_none] at mf
  have hB := hl
  have s4 : AccB 0 (h ++ [.row 3 [Z]]) ov 3 (out.map nodeV) := s3.more
  obtain ⟨ov1, w1, e1, e2, e3, e5, e6⟩ := s4.app2 (b := 40) (y := .sl 3 [nodeV n]) (ys := [nodeV n]) (by omega) rfl (by simp only [List.length_cons, List.length_nil, List.length_map]; omega) (by simp only [List.length_cons, List.length_nil, List.length_map]; omega)
  obtain ⟨p1, p2, p3, p4⟩ := e2.good
  obtain ⟨H2, hH2⟩ : ∃ H2, H2 = wr (h ++ [.row 3 [Z]]) w1 := ⟨_, rfl⟩
  rw [← hH2] at e2 e3 e6
  have kl : ∀ nid (l : List Ob), opJ nid (h ++ l) (.lku none (.int .i64 0) false) [.mp mid, .str (tx n)] = some (.int .i64 0, none) := fun nid l => o_lku0 (g2 l) rfl mf
  have a1 : H2[sid]? = some (.row 2 [.agg [ov, .mp mid]]) := by rw [e3 sid (by simp; omega) (fun q => by have := s3.oid q; rw [s1] at this; cases this)]; exact g1 _
  have a2 : H2[mid]? = some (.map (esF out 0) out.length) := by rw [e3 mid (by simp; omega) (fun q => by have := s3.oid q; rw [s2] at this; cases this)]; exact g2 _
  subst hZ
  simp only [List.length_append, List.length_singleton] at e1
  rw [acw_hm (CT T_tree_sharer_put) rfl]
  have hH2' := hH2.symm
  have b1 := (List.getElem?_eq_some_iff.1 a1).1
  have b2 := (List.getElem?_eq_some_iff.1 a2).1
  obtain ⟨H3, hH3⟩ : ∃ H3, H3 = H2.set sid (.row 2 [.agg [ov1, .mp mid]]) := ⟨_, rfl⟩
  have u1 : wr H2 (some (sid, .row 2 [.agg [ov1, .mp mid]])) = H3 := by rw [wr_lt b1, hH3]
  have u2 : H3[sid]? = some (.row 2 [.agg [ov1, .mp mid]]) := by rw [hH3]; simp [b1]
  have u3 : H3[mid]? = some (.map (esF out 0) out.length) := by rw [hH3, List.getElem?_set_ne hne]; exact a2
  have u4 : AccB 0 H3 ov1 3 (out.map nodeV ++ [nodeV n]) := by rw [hH3]; exact e2.set a1 (by omega)
  have u5 : lenV H3 ov1 = some (.int .i64 ((out.length : Int) + 1), none) := by
   rcases u4 with ⟨-, q⟩ | ⟨id, -, rfl, q⟩
   ·simp at q
   ·simp [q]
  obtain ⟨H4, hH4⟩ : ∃ H4, H4 = H3.set mid (.map (esF (out ++ [n]) 0) (out.length + 1)) := ⟨_, rfl⟩
  have b3 := (List.getElem?_eq_some_iff.1 u3).1
  have v1 : wr H3 (some (mid, .map (esF (out ++ [n]) 0) (out.length + 1))) = H4 := by rw [wr_lt b3, hH4]
  have v2 : H4[sid]? = some (.row 2 [.agg [ov1, .mp mid]]) := by rw [hH4, List.getElem?_set_ne hne.symm]; exact u2
  have v3 : H4[mid]? = some (.map (esF (out ++ [n]) 0) (out.length + 1)) := by rw [hH4]; simp [b3]
  have km : ∀ nid, opJ nid H3 (.mpu none) [.mp mid, .str (tx n), .int .i64 ((out.length : Int) + 1)] = some (.und, some (mid, .map (esF (out ++ [n]) 0) (out.length + 1))) := fun nid => by
   rw [o_mpu u3 rfl rfl rfl mf, esF_app, Nat.zero_add]
  have fi : (out ++ [n]).findIdx? (fun m => decide (m = n)) = some out.length := by
   rw [List.findIdx?_append, hf]
   simp
  have mf2 := mfind_es n (out ++ [n]) 0
  rw [fi] at mf2
  simp only [Option.map_some, Nat.zero_add] at mf2
  have kk : ∀ nid, opJ nid H4 (.lku none (.int .i64 0) false) [.mp mid, .str (tx n)] = some (.int .i64 ((out.length : Int) + 1), none) := fun nid => o_lku v3 rfl mf2
  have wI : IntKind.i64.wrap (out.length : Int) = out.length := wrap64 (by omega) (by omega)
  refine ⟨ov1, H4, ?_, ?_, ?_, ?_⟩
  ·simp [runW_fin, F_tree_sharer_put, i_tree_sharer_put, kt, g1, kl, ieq, q1, q2, q3, q4, p1, p2, p3, p4, kb, e1, hH2', a1, a2, u1, u2, u3, u5, v1, v2, v3, km, kk, wI]
  ·refine ⟨v2, by rw [List.length_append]; exact v3, ?_⟩
   rw [List.map_append]
   refine AccB.keep u4 fun j r _ hj => ?_
   have hne2 : mid ≠ j := fun q => by subst q; rw [u3] at hj; cases hj
   rw [hH4, List.getElem?_set_ne hne2]
   exact hj
  ·refine ⟨fun j hj k1 k2 _ k4 => ?_, ?_, ?_⟩
   ·rw [hH4, List.getElem?_set_ne (Ne.symm k2), hH3, List.getElem?_set_ne (Ne.symm k1), e3 j (by simp; omega) k4]
    exact get_lt hj
   ·rw [hH4, List.length_set, hH3, List.length_set]
    simp at e6
    omega
   ·rcases e5 with e5 | e5
    ·exact .inl e5
    ·exact .inr ⟨_, e5, by simp⟩
  ·intro hd k1 k2 k4
   rw [hH4, List.getElem?_set_ne (Ne.symm k2), hH3, List.getElem?_set_ne (Ne.symm k1), e3 did (by simp; omega) k4]
   exact get_lt hd
end Go.RR.M
set_option linter.unusedVariables false
set_option linter.unusedSimpArgs false
set_option maxRecDepth 100000
set_option maxHeartbeats 4000000
namespace Go.RR
/-- what is done already -/
structure Dn (t out : List Nd) (dn : List Nat) : Prop where
 l : dn.length = t.length
 d : ∀ (j x : Nat), dn[j]? = some (x + 1) → x < out.length ∧ unf out x = unf t j
theorem Dn.more {t out e : List Nd} {dn : List Nat} (d : Dn t out dn) (g : Ahd (out ++ e)) : Dn t (out ++ e) dn := ⟨d.l, fun j x h => by
 obtain ⟨h1, h2⟩ := d.d j x h
 exact ⟨by rw [List.length_append]; omega, by rw [unf_pre g x h1]; exact h2⟩⟩
abbrev dnV (dn : List Nat) : List V := dn.map fun (x : Nat) => iv (x : Int)
end Go.RR
namespace Go.RR.M
open Go Go.RR Go.Lib
def SW (t : List Nd) (L : List UT) (sid mid did k : Nat) : Prop := ∀ (h : List Ob) (ov : V) (out : List Nd) (dn : List Nat), Shr h sid mid ov out → Good out → Sub L out → h[did]? = some (.row 1 (dnV dn)) → Dn t out dn →
 ∃ ov' h' dn', acw C n_tree_sharer_walk [.ptr sid 0 0 1, treeV t, iv k, .own did 0 t.length t.length] h = some (.ret (iv (shU (unf t k) out).2), h') ∧ Shr h' sid mid ov' (shU (unf t k) out).1 ∧ h'[did]? = some (.row 1 (dnV dn')) ∧ Dn t (shU (unf t k) out).1 dn' ∧ Keep h h' sid mid did ov ov'
theorem sw_l0 (t : List Nd) (L : List UT) (hc : Cl L) (htl : ∀ j, j < t.length → unf t j ∈ L) (i : Nat) (hi : i < t.length) (kids : List Int) (hk : ∀ k ∈ kids, 0 ≤ k ∧ k < i) (hkl : kids.length ≤ 64) (sid mid did : Nat) (hsw : ∀ k : Nat, (k : Int) ∈ kids → SW t L sid mid did k)
  (h0 : List Ob) (N : Nat) (hN : N = h0.length) (ov0 : V) (i1 : sid < N) (i2 : mid < N) (i3 : did < N) (kd pk : Int) :
  ∀ (d j : Nat) (out : List Nd) (ov : V) (dn : List Nat) (ks : List Int) (kv : V) (h : List Ob), j + d = kids.length → ks.length ≤ j → Shr h sid mid ov out → Good out → Sub L out → h[did]? = some (.row 1 (dnV dn)) → Dn t out dn → h[N]? = some (.row 3 [.agg [iv kd, iv pk, kv]]) → AccB (N + 1) h kv 1 (ks.map (V.int .i64)) → oidV ov ≠ some N → Keep h0 h sid mid did ov0 ov →
  ∃ ov' h' dn' kv', evw C y0 i_tree_sharer_walk_l0 [(0, .ptr sid 0 0 1), (1, treeV t), (2, iv i), (3, .own did 0 t.length t.length), (9, .ptr N 0 0 1), (37, intsV kids), (38, iv kids.length), (39, iv j)] h =
   some (.ext 0, [(0, .ptr sid 0 0 1), (1, treeV t), (2, iv i), (3, .own did 0 t.length t.length), (9, .ptr N 0 0 1), (37, intsV kids), (38, iv kids.length), (39, iv kids.length), (40, .bool false)], h') ∧
   Shr h' sid mid ov' (shL ((kids.drop j).map fun k => unf t k.toNat) out).1 ∧ h'[did]? = some (.row 1 (dnV dn')) ∧ Dn t (shL ((kids.drop j).map fun k => unf t k.toNat) out).1 dn' ∧ h'[N]? = some (.row 3 [.agg [iv kd, iv pk, kv']]) ∧ AccB (N + 1) h' kv' 1 ((ks ++ (shL ((kids.drop j).map fun k => unf t k.toNat) out).2).map (V.int .i64)) ∧ oidV ov' ≠ some N ∧ Keep h0 h' sid mid did ov0 ov'
 | 0, j, out, ov, dn, ks, kv, h, e, hks, s, g, sb, hd, hdn, hNr, a, ho, kp => by
  obtain rfl : j = kids.length := by omega
  rw [r_tree_sharer_walk_0, List.drop_length]
  refine ⟨ov, h, dn, kv, ?_, by simpa [shL] using s, hd, by simpa [shL] using hdn, hNr, by simpa [shL] using a, ho, kp⟩
  simp [b_tree_sharer_walk_0]
 | d + 1, j, out, ov, dn, ks, kv, h, e, hks, s, g, sb, hd, hdn, hNr, a, ho, kp => by
  have hlt : j < kids.length := by omega
  have h2 : (j : Int) < kids.length := by omega
  have hw1 := wrap_succ (i := j) (n := kids.length) hlt (by omega)
  have hK := hk kids[j] (List.getElem_mem hlt)
  obtain ⟨kn, hkn⟩ : ∃ kn : Nat, kids[j] = kn := ⟨kids[j].toNat, by omega⟩
  have h5 : kids[j]? = some (kn : Int) := by simp [hlt, hkn]
  have hmem := htl kn (by omega)
  obtain ⟨g1, -, -, -⟩ := shU_spec (unf t kn) out g
  have sb1 := shU_sub L hc (unf t kn) out g sb hmem
  obtain ⟨ov1, h1, dn1, kw, s1, hd1, hdn1, kp1⟩ := hsw kn (by rw [← hkn]; exact List.getElem_mem hlt) h ov out dn s g sb hd hdn
  rw [List.drop_eq_getElem_cons hlt, hkn, List.map_cons, Int.toNat_natCast]
  have hNl := (List.getElem?_eq_some_iff.1 hNr).1
  have hN1 : h1[N]? = some (.row 3 [.agg [iv kd, iv pk, kv]]) := by rw [kp1.k N hNl (by omega) (by omega) (by omega) ho]; exact hNr
  have ho1 : oidV ov1 ≠ some N := by
   rcases kp1.o with q | ⟨id, q, hid⟩
   ·rw [q]; exact ho
   ·rw [q]; intro q2; cases q2; omega
  have a1 : AccB (N + 1) h1 kv 1 (ks.map (V.int .i64)) := a.keep fun x r hx hr => by
   have hxl := (List.getElem?_eq_some_iff.1 hr).1
   rw [kp1.k x hxl (by omega) (by omega) (by omega) (fun q => by have := s.o.oid q; rw [hr] at this; cases this)]
   exact hr
  have kp2 : Keep h0 h1 sid mid did ov0 ov1 := kp.trans kp1
  have hN1l := (List.getElem?_eq_some_iff.1 hN1).1
  generalize hx : (shU (unf t kn) out).2 = x at *
  obtain ⟨kv1, w, e1, e2, e3, e5, e6⟩ := a1.app2 (b := 8) (y := .sl 1 [iv x]) (ys := [iv x]) (by omega) rfl (by simp only [List.length_cons, List.length_nil, List.length_map]; omega) (by simp only [List.length_cons, List.length_nil, List.length_map]; omega)
  obtain ⟨q1, q2, q3, q4⟩ := a1.good
  obtain ⟨p1, p2, p3, p4⟩ := e2.good
  obtain ⟨H2, hH2⟩ : ∃ H2, H2 = wr h1 w := ⟨_, rfl⟩
  rw [← hH2] at e2 e3 e6
  have low : ∀ y, y < N + 1 → H2[y]? = h1[y]? := fun y hy => e3 y (by omega) (fun q => by
   rcases a1 with ⟨rfl, -⟩ | ⟨id, hid, rfl, -⟩
   ·cases q
   ·cases q; omega)
  have hN2 : H2[N]? = some (.row 3 [.agg [iv kd, iv pk, kv]]) := by rw [low N (by omega)]; exact hN1
  have hN2l := (List.getElem?_eq_some_iff.1 hN2).1
  obtain ⟨H3, hH3⟩ : ∃ H3, H3 = H2.set N (.row 3 [.agg [iv kd, iv pk, kv1]]) := ⟨_, rfl⟩
  have low3 : ∀ y, y < N → H3[y]? = h1[y]? := fun y hy => by rw [hH3, List.getElem?_set_ne (by omega), low y (by omega)]
  have s3 : Shr H3 sid mid ov1 (shU (unf t kn) out).1 := by
   refine ⟨by rw [low3 sid i1]; exact s1.s, by rw [low3 mid i2]; exact s1.m, ?_⟩
   have so := s1.o
   rcases so with ⟨q, r⟩ | ⟨id, hid, q, r⟩
   ·exact .inl ⟨q, r⟩
   ·refine .inr ⟨id, hid, q, ?_⟩
    have n1 : id ≠ N := fun q2 => ho1 (by rw [q, ← q2]; rfl)
    rw [hH3, List.getElem?_set_ne (Ne.symm n1), e3 id (List.getElem?_eq_some_iff.1 r).1 (fun q2 => by have := a1.oid q2; rw [r] at this; cases this)]
    exact r
  have hd3 : H3[did]? = some (.row 1 (dnV dn1)) := by rw [low3 did i3]; exact hd1
  have hN3 : H3[N]? = some (.row 3 [.agg [iv kd, iv pk, kv1]]) := by rw [hH3]; simp [hN2l]
  have a3 : AccB (N + 1) H3 kv1 1 ((ks ++ [(x : Int)]).map (V.int .i64)) := by
   have : AccB (N + 1) H2 kv1 1 ((ks ++ [(x : Int)]).map (V.int .i64)) := by simpa using e2
   rw [hH3]
   exact this.keep fun y r hy hr => by rw [List.getElem?_set_ne (by omega)]; exact hr
  have kp3 : Keep h0 H3 sid mid did ov0 ov1 := by
   refine ⟨fun y hy k1 k2 k3 k4 => ?_, ?_, kp2.o⟩
   ·rw [low3 y (by omega)]; exact kp2.k y hy k1 k2 k3 k4
   ·rw [hH3, List.length_set]; have := kp2.l; omega
  obtain ⟨ov', h', dn', kv', ih, r1, r2, r3, r4, r5, r6, r7⟩ := sw_l0 t L hc htl i hi kids hk hkl sid mid did hsw h0 N hN ov0 i1 i2 i3 kd pk d (j + 1) (shU (unf t kn) out).1 ov1 dn1 (ks ++ [(x : Int)]) kv1 H3 (by omega) (by simp; omega) s3 g1 sb1 hd3 hdn1 hN3 a3 ho1 kp3
  simp only [Int.natCast_add, Int.cast_ofNat_Int] at ih
  refine ⟨ov', h', dn', kv', ?_, ?_, r2, ?_, r4, ?_, r6, r7⟩
  ·have k4 : bsfL (.int .i64 0) [iv x] = some (.sl 1 [iv x]) := rfl
   have hH2' := hH2.symm
   have u1 : wr H2 (some (N, .row 3 [.agg [iv kd, iv pk, kv1]])) = H3 := by rw [wr_lt hN2l, hH3]
   rw [r_tree_sharer_walk_0, ← ih]
   simp [b_tree_sharer_walk_0, h2, hlt, h5, hkn, hNr, hN1, hN2, kw, k4, e1, hH2', u1, q1, q2, q3, q4, p1, p2, p3, p4, hw1]
  ·rw [shL]; exact r1
  ·rw [shL]; exact r3
  ·rw [shL, hx]
   simpa using r5
end Go.RR.M
set_option linter.unusedVariables false
set_option linter.unusedSimpArgs false
set_option maxRecDepth 100000
set_option maxHeartbeats 4000000
namespace Go.RR.M
open Go Go.RR Go.Lib
theorem fz_node {B : Nat} {h : List Ob} {kv : V} {ks : List Int} (a : AccB B h kv 1 (ks.map (V.int .i64))) : ∃ kv2 h2, fz1 h kv = some (kv2, h2) ∧ (kv2 = intsV ks ∨ (kv2 = .nsl 1 ∧ ks = [])) ∧ (∀ j : Nat, (∀ r, h[j]? ≠ some (Ob.row 1 r)) → h2[j]? = h[j]?) ∧ (∀ j : Nat, j < B → h2[j]? = h[j]?) ∧ h2.length = h.length := by
 rcases a with ⟨rfl, q⟩ | ⟨id, hid, rfl, e⟩
 ·refine ⟨.nsl 1, h, by simp, .inr ⟨rfl, by simpa using q⟩, fun _ _ => rfl, fun _ _ => rfl, rfl⟩
 ·have hd : dataL (ks.map (V.int .i64)) = true := dataL_all fun x hx => by
   obtain ⟨y, -, rfl⟩ := List.mem_map.1 hx
   rfl
  have f := fz1_own e rfl hd
  refine ⟨intsV ks, h.set id .dead, f, .inl rfl, fun j hj => ?_, fun j hj => ?_, by simp⟩
  ·have n1 : id ≠ j := fun q => hj _ (by rw [← q]; exact e)
   rw [List.getElem?_set_ne n1]
  ·rw [List.getElem?_set_ne (by omega)]
theorem sharer_walk (t : List Nd) (L : List UT) (hm : mayT t = true) (hL : L.length ≤ 1000000) (hc : Cl L) (htl : ∀ j, j < t.length → unf t j ∈ L) (sid mid did : Nat) : ∀ i, i < t.length → SW t L sid mid did i := by
 intro i
 induction i using Nat.strongRecOn with
 | _ i ih =>
  intro hi h ov out dn s g sb hd hdn
  have ha := mayT_ahd hm
  have hks := ha i hi
  have hkl := mayT_kids hm i hi
  have hu := unf_eq ha hi
  have hfit := fits_kp (mayT_fits hm i hi)
  have htlen := (mayT_len hm).2
  have hi2 : (i : Int) < t.length := by omega
  have h3 : t[i]? = some t[i] := by simp [hi]
  have hdl : i < dn.length := by rw [hdn.l]; exact hi
  obtain ⟨x, hx⟩ : ∃ x, x = dn[i] := ⟨_, rfl⟩
  have hx1 : dn[i]? = some x := by simp [hdl, hx]
  have hx2 : (dnV dn)[i]? = some (iv (x : Int)) := by simp [hx1]
  have hl := hdn.l
  obtain ⟨DV, hDV⟩ : ∃ DV, DV = dnV dn := ⟨_, rfl⟩
  have hDl : DV.length = t.length := by rw [hDV]; simp [hl]
  rw [← hDV] at hx2 hd
  have hx3 : ∀ h : i < DV.length, DV[i]'h = iv (x : Int) := fun _ => (List.getElem?_eq_some_iff.1 hx2).2
  cases x with
  | succ x =>
   obtain ⟨y1, y2⟩ := hdn.d i x hx1
   have hsh := shU_in (unf t i) out x g y1 y2
   have hol := sb.len g
   rw [hsh]
   refine ⟨ov, h, dn, ?_, s, by rw [hd, hDV], hdn, .refl⟩
   have c1 : (0 : Int) < (x : Int) + 1 := by omega
   have w1 : IntKind.i64.wrap (x : Int) = x := wrap64 (by omega) (by omega)
   simp only [Int.natCast_add, Int.cast_ofNat_Int] at hx2 hx3
   rw [acw_hm (CT T_tree_sharer_walk) rfl]
   simp [runW_fin, F_tree_sharer_walk, i_tree_sharer_walk, hd, hx2, hx3, hi, hi2, hDl, c1, w1]
  | zero =>
   obtain ⟨kd, hkd⟩ : ∃ kd, kd = t[i].kind := ⟨_, rfl⟩
   obtain ⟨pk, hpk⟩ : ∃ pk, pk = t[i].pick := ⟨_, rfl⟩
   obtain ⟨kids, hkids⟩ : ∃ kids, kids = t[i].kids := ⟨_, rfl⟩
   rw [← hkids] at hks hkl hu
   rw [← hkd, ← hpk] at hfit hu
   have hni : t[i] = ⟨kd, pk, kids⟩ := by rw [hkd, hpk, hkids]
   rw [hni] at h3
   have h3' : ∀ h : i < t.length, t[i]'h = ⟨kd, pk, kids⟩ := fun _ => hni
   have hsl := (List.getElem?_eq_some_iff.1 s.s).1
   have hml := (List.getElem?_eq_some_iff.1 s.m).1
   have hdl2 := (List.getElem?_eq_some_iff.1 hd).1
   obtain ⟨h0, hh0⟩ : ∃ h0, h0 = h ++ [Ob.row 3 [.agg [iv kd, iv pk, .nsl 1]]] := ⟨_, rfl⟩
   have s0 : Shr h0 sid mid ov out := by rw [hh0]; exact ⟨get_some s.s, get_some s.m, s.o.more⟩
   have hd0 : h0[did]? = some (.row 1 (dnV dn)) := by rw [hh0, ← hDV]; exact get_some hd
   have hno : oidV ov ≠ some h.length := fun q => by
    have := (List.getElem?_eq_some_iff.1 (s.o.oid q)).1
    omega
   obtain ⟨ov1, h1, dn1, kv1, lp, r1, r2, r3, r4, r5, r6, r7⟩ := sw_l0 t L hc htl i hi kids hks hkl sid mid did (fun k hk => ih k (by have := hks k hk; omega) (by have := hks k hk; omega)) h h.length rfl ov hsl hml hdl2 kd pk kids.length 0 out ov dn [] (.nsl 1) h0 (by omega) (by simp) s0 g sb hd0 hdn (by rw [hh0]; simp) .nil hno ⟨fun y hy _ _ _ _ => by rw [hh0, get_lt hy], by rw [hh0]; simp, .inl rfl⟩
   simp only [List.drop_zero, List.nil_append, Int.cast_ofNat_Int] at lp r1 r3 r5
   obtain ⟨cs, hcs⟩ : ∃ cs, cs = kids.map fun k => unf t k.toNat := ⟨_, rfl⟩
   rw [← hcs] at hu r1 r3 r5
   obtain ⟨g1, -, gk, -⟩ := shL_spec cs out g
   have sb1 := shL_sub L hc cs out g sb (by
    intro c hcc
    rw [hcs] at hcc
    obtain ⟨k, hk, rfl⟩ := List.mem_map.1 hcc
    have := hks k hk
    exact htl _ (by omega))
   have hol := sb1.len g1
   have hrl : (shL cs out).2.length ≤ 64 := by
    have key : ∀ (cs : List UT) (out : List Nd), (shL cs out).2.length = cs.length := by
     intro cs
     induction cs with
     | nil => intro out; rw [shL]; rfl
     | cons u r ih => intro out; rw [shL]; simp [ih]
    rw [key, hcs, List.length_map]
    exact hkl
   obtain ⟨kv2, h2, fz, hkv, f1, f2, f3⟩ := fz_node r5
   have hbn : NdB ⟨kd, pk, (shL cs out).2⟩ := by
    refine ⟨?_, ?_, fun k hk => ?_, ?_⟩
    ·show I64 kd
     unfold I64; omega
    ·show I64 pk
     unfold I64; omega
    ·have := gk k hk
     unfold I64; omega
    ·show (shL cs out).2.length ≤ 1000000
     omega
   have s2 : Shr h2 sid mid ov1 (shL cs out).1 := by
    refine ⟨by rw [f2 sid (by omega)]; exact r1.s, by rw [f2 mid (by omega)]; exact r1.m, r1.o.keep fun y r _ hr => ?_⟩
    rw [f1 y (fun r2 q => by rw [hr] at q; cases q)]
    exact hr
   have hd2 : h2[did]? = some (.row 1 (dnV dn1)) := by rw [f2 did (by omega)]; exact r2
   obtain ⟨ov2, h4, kp, s4, kp4, kd4⟩ := put ⟨kd, pk, (shL cs out).2⟩ hbn kv2 hkv h2 sid mid ov1 (shL cs out).1 s2 (by omega) did
   have hpu : putN (shL cs out).1 ⟨kd, pk, (shL cs out).2⟩ = shU (unf t i) out := by rw [hu, shU]
   rw [hpu] at kp s4
   obtain ⟨g5, ⟨e5, he5⟩, h6, h7⟩ := shU_spec (unf t i) out g
   have hd1l := (List.getElem?_eq_some_iff.1 hd2).1
   have n1 : did ≠ sid := fun q => by have := s2.s; rw [← q, hd2] at this; cases this
   have n2 : did ≠ mid := fun q => by have := s2.m; rw [← q, hd2] at this; cases this
   have n3 : oidV ov1 ≠ some did := fun q => by have := s2.o.oid q; rw [hd2] at this; cases this
   have n4 : oidV ov2 ≠ some did := by
    rcases kp4.o with q | ⟨id, q, hid⟩
    ·rw [q]; exact n3
    ·rw [q]; intro q2; cases q2; omega
   have hd4 : h4[did]? = some (.row 1 (dnV dn1)) := by rw [kd4 hd1l n1 n2 n3]; exact hd2
   have hd4l := (List.getElem?_eq_some_iff.1 hd4).1
   generalize hm2 : (shU (unf t i) out).2 = m at *
   have hl1 := r3.l
   obtain ⟨h5, hh5⟩ : ∃ h5, h5 = h4.set did (.row 1 (dnV (dn1.set i (m + 1)))) := ⟨_, rfl⟩
   have hd5 : h5[did]? = some (.row 1 (dnV (dn1.set i (m + 1)))) := by rw [hh5]; simp [hd4l]
   have sb5 := shU_sub L hc (unf t i) out g sb (htl i hi)
   have hol5 := sb5.len g5
   refine ⟨ov2, h5, dn1.set i (m + 1), ?_, ?_, hd5, ?_, ?_⟩
   ·simp only [Int.cast_ofNat_Int] at hx2 hx3
    rw [hh0] at lp
    obtain ⟨q1, q2, q3, q4⟩ := r5.good
    obtain ⟨D4, hD4⟩ : ∃ D4, D4 = dnV dn1 := ⟨_, rfl⟩
    have hD4l : D4.length = t.length := by rw [hD4, List.length_map]; exact hl1
    obtain ⟨y, hy⟩ : ∃ y : Nat, ∀ h : i < D4.length, D4[i]'h = .int .i64 (y : Int) := ⟨dn1[i]'(by omega), fun _ => by simp [hD4, dnV]⟩
    rw [← hD4] at hd4
    have e5 : dnV (dn1.set i (m + 1)) = D4.set i (iv ((m : Int) + 1)) := by
     rw [hD4]
     simp [dnV, List.map_set]
    rw [e5] at hd5 hh5
    have u1 : wr h4 (some (did, .row 1 (D4.set i (iv ((m : Int) + 1))))) = h5 := by rw [wr_lt hd4l, hh5]
    have w1 : IntKind.i64.wrap ((m : Int) + 1) = (m : Int) + 1 := wrap64 (by omega) (by omega)
    have w2 : IntKind.i64.wrap (m : Int) = m := wrap64 (by omega) (by omega)
    rw [acw_hm (CT T_tree_sharer_walk) rfl]
    simp [runW_fin, F_tree_sharer_walk, i_tree_sharer_walk, hd, hx2, hx3, hi, hi2, hDl, h3, h3', lp, r4, fz, kp, hd4, hD4l, hy, u1, hd5, w1, w2, q1, q2, q3, q4]
   ·refine ⟨by rw [hh5, List.getElem?_set_ne n1]; exact s4.s, by rw [hh5, List.getElem?_set_ne n2]; exact s4.m, ?_⟩
    rw [hh5]
    exact s4.o.set hd4 (by omega)
   ·refine ⟨by rw [List.length_set]; exact r3.l, fun j x hj => ?_⟩
    by_cases c : i = j
    ·subst c
     rw [List.getElem?_set_self (by omega)] at hj
     cases hj
     exact ⟨h6, h7⟩
    ·rw [List.getElem?_set_ne c] at hj
     obtain ⟨y1, y2⟩ := r3.d j x hj
     obtain ⟨-, ⟨e6, he6⟩, -⟩ := putN_spec (n := ⟨kd, pk, (shL cs out).2⟩) g1 gk
     rw [hpu] at he6
     have g5a := g5.ahd
     rw [he6] at g5a ⊢
     exact ⟨by rw [List.length_append]; omega, by rw [unf_pre g5a x y1]; exact y2⟩
   ·have k1 : Keep h h2 sid mid did ov ov1 := by
     refine ⟨fun y hy a1 a2 a3 a4 => by rw [f2 y (by omega)]; exact r7.k y hy a1 a2 a3 a4, by rw [f3]; exact r7.l, r7.o⟩
    have k2 := k1.trans kp4
    refine ⟨fun y hy a1 a2 a3 a4 => ?_, by rw [hh5, List.length_set]; exact k2.l, k2.o⟩
    rw [hh5, List.getElem?_set_ne (Ne.symm a3)]
    exact k2.k y hy a1 a2 a3 a4
end Go.RR.M
set_option linter.unusedVariables false
set_option linter.unusedSimpArgs false
set_option maxRecDepth 100000
set_option maxHeartbeats 4000000
namespace Go.RR
def rootU (t : List Nd) : UT := unf t (t.length - 1)
def shareT (t : List Nd) : List Nd := if mayT t = true then (shU (rootU t) []).1 else []
theorem root_mem {t : List Nd} (hm : mayT t = true) : rootU t ∈ alls t := alls_mem (by have := (mayT_len hm).1; omega)
/-- what holds of what is shared -/
theorem share_spec {t : List Nd} (hm : mayT t = true) : Good (shareT t) ∧ Sub (alls t) (shareT t) ∧ (shU (rootU t) []).2 < (shareT t).length ∧ unf (shareT t) (shU (rootU t) []).2 = rootU t := by
 have h := shU_spec (rootU t) [] Good.nil
 have h2 := shU_sub (alls t) (alls_cl (mayT_ahd hm)) (rootU t) [] Good.nil .nil (root_mem hm)
 unfold shareT
 rw [if_pos hm]
 exact ⟨h.1, h2, h.2.2.1, h.2.2.2⟩
/-- kinds and picks of nodes that are of some trees -/
theorem sub_fits {t out : List Nd} (hm : mayT t = true) (g : Ahd out) (sb : Sub (alls t) out) (i : Nat) (hi : i < out.length) : fitsN out[i].kind out[i].pick out[i].kids.length = true := by
 have h := sb i hi
 obtain ⟨j, hj, e⟩ := List.mem_map.1 h
 have hj := List.mem_range.1 hj
 rw [unf_eq g hi, unf_eq (mayT_ahd hm) hj] at e
 injection e with e1 e2 e3
 have := mayT_fits hm j hj
 have e4 := congrArg List.length e3
 simp only [List.length_map] at e4
 rw [e1, e2, e4] at this
 exact this
theorem share_may {t : List Nd} (hm : mayT t = true) : mayT (shareT t) = true := by
 obtain ⟨g, sb, h1, -⟩ := share_spec hm
 refine mayT_iff.2 ⟨by omega, ?_, fun j hj => nodeOK_iff.2 ⟨sub_fits hm g.ahd sb j hj, g.ahd j hj⟩⟩
 have := sb.len g
 rw [alls_len] at this
 have := (mayT_len hm).2
 omega
theorem share_len {t : List Nd} (hm : mayT t = true) : (shareT t).length ≤ t.length := by
 obtain ⟨g, sb, -, -⟩ := share_spec hm
 have := sb.len g
 rwa [alls_len] at this
end Go.RR
namespace Go.RR.M
open Go Go.RR Go.Lib
@[simp] theorem mp_cells {i : Nat} : (V.mp i).cells = [.mp i] := rfl
@[simp] theorem mp_und {i : Nat} : (V.mp i).isUnd = false := rfl
@[simp] theorem mp_tup {i : Nat} : (V.mp i).isTup = false := rfl
theorem o_mkm {nid : Nat} {h : List Ob} : opJ nid h .mkm [] = some (.mp nid, some (nid, .map [] 0)) := rfl
theorem tree_Share (t : List Nd) (ht : t.length ≤ 4611686018427387904) (h : List Ob) : acw C n_tree_Share [treeV t] h = some (.ret (treeV (shareT t)), h) := by
 have km := tree_May t ht
 cases hm : mayT t with
 | false =>
  rw [hm] at km
  unfold shareT
  rw [hm, if_neg (by simp)]
  refine acw_pure (a2 := [treeV t]) (h' := []) (v := .nsl 3) (CT T_tree_Share) rfl rfl ?_ rfl (by simp)
  simp [runW_fin, F_tree_Share, i_tree_Share, km]
 | true =>
  rw [hm] at km
  obtain ⟨p1, p2⟩ := mayT_len hm
  have hL : (alls t).length ≤ 1000000 := by rw [alls_len]; omega
  obtain ⟨m, hm2⟩ : ∃ m, t.length = m + 1 := ⟨t.length - 1, by omega⟩
  obtain ⟨ov', h', dn', kw, s1, -, -, -⟩ := sharer_walk t (alls t) hm hL (alls_cl (mayT_ahd hm)) (fun j hj => alls_mem hj) 1 0 2 m (by omega) [.map [] 0, .row 2 [.agg [.nsl 3, .mp 0]], .row 1 (dnV (List.replicate t.length 0))] (.nsl 3) [] (List.replicate t.length 0) ⟨rfl, rfl, .nil⟩ Good.nil .nil rfl ⟨by simp, fun j x hx => by
   obtain ⟨hj, e⟩ := List.getElem?_eq_some_iff.1 hx
   simp at e⟩
  have hr : unf t m = rootU t := by unfold rootU; rw [hm2]; rfl
  have hsh : (shU (rootU t) []).1 = shareT t := by unfold shareT; rw [if_pos hm]
  rw [hr, hsh] at s1
  have kz : frz h' fdepth ov' = some (treeV (shareT t)) := s1.o.frz 11 (frz_nodes _ 7 _)
  refine acw_pure (a2 := [treeV t]) (h' := h') (v := ov') (CT T_tree_Share) rfl rfl ?_ kz (by simp)
  have w1 : IntKind.i64.wrap (m : Int) = m := wrap64 (by omega) (by omega)
  have er : dnV (List.replicate t.length 0) = List.replicate t.length (.int .i64 0) := by simp [dnV]
  obtain ⟨q1, q2, q3, q4⟩ := s1.o.good
  have ss := s1.s
  rw [er] at kw
  rw [hm2] at kw
  have c1 : (0 : Int) ≤ (m : Int) + 1 := by omega
  have c2 : ((m : Int) + 1) * 8 ≤ 70368744177664 := by omega
  have c3 : (m : Int) + 1 ≤ 70368744177664 := by omega
  simp [runW_fin, F_tree_Share, i_tree_Share, o_mkm, km, hm2, kw, w1, ss, q1, q2, q3, q4, c1, c2, c3]
end Go.RR.M
set_option linter.unusedVariables false
set_option linter.unusedSimpArgs false
set_option maxRecDepth 100000
set_option maxHeartbeats 4000000
namespace Go.RR
open Go.Lib
mutual
def cntU : UT → Nat
 | .nd _ _ cs => 1 + cntL cs
def cntL : List UT → Nat
 | [] => 0
 | u :: r => cntU u + cntL r
end
end Go.RR
namespace Go.RR.M
open Go Go.RR Go.Lib
end Go.RR.M
set_option linter.unusedVariables false
set_option linter.unusedSimpArgs false
set_option maxRecDepth 100000
namespace Go.RR
mutual
theorem shU_pred (P : UT → Prop) (hc : ∀ k p cs, P (.nd k p cs) → ∀ c ∈ cs, P c) : ∀ (u : UT) (out : List Nd), Good out → (∀ i, i < out.length → P (unf out i)) → P u → ∀ i, i < (shU u out).1.length → P (unf (shU u out).1 i)
 | .nd k p cs, out, g, s, hu => by
  have s1 := shL_pred P hc cs out g s (hc k p cs hu)
  obtain ⟨g1, -, h2, -⟩ := shL_spec cs out g
  obtain ⟨g2, -, h3, h4⟩ := shU_spec (.nd k p cs) out g
  obtain ⟨-, ⟨e, he⟩, -⟩ := putN_spec (n := ⟨k, p, (shL cs out).2⟩) g1 h2
  intro i hi
  by_cases c : i < (shL cs out).1.length
  ·have e1 : (shU (.nd k p cs) out).1 = (shL cs out).1 ++ e := by rw [shU]; exact he
   have g2 := g2.ahd
   rw [e1] at g2 ⊢
   rw [unf_pre g2 i c]
   exact s1 i c
  ·have : i = (shU (.nd k p cs) out).2 := by
    rw [shU] at h3 hi ⊢
    unfold putN at h3 hi ⊢
    split at h3
    ·rename_i j hj
     simp only [hj] at hi ⊢
     omega
    ·rename_i hj
     simp only [hj, List.length_append, List.length_singleton] at hi ⊢
     omega
   rw [this, h4]
   exact hu
theorem shL_pred (P : UT → Prop) (hc : ∀ k p cs, P (.nd k p cs) → ∀ c ∈ cs, P c) : ∀ (cs : List UT) (out : List Nd), Good out → (∀ i, i < out.length → P (unf out i)) → (∀ c ∈ cs, P c) → ∀ i, i < (shL cs out).1.length → P (unf (shL cs out).1 i)
 | [], out, g, s, h => by rw [shL]; exact s
 | u :: r, out, g, s, h => by
  have s1 := shU_pred P hc u out g s (h u (by simp))
  have g1 := (shU_spec u out g).1
  have := shL_pred P hc r (shU u out).1 g1 s1 fun c hc => h c (by simp [hc])
  rw [shL]
  exact this
end
theorem cntL_mem {cs : List UT} {c : UT} (h : c ∈ cs) : cntU c ≤ cntL cs := by
 induction cs with
 | nil => simp at h
 | cons u r ih =>
  rw [cntL]
  rcases List.mem_cons.1 h with rfl | h
  ·omega
  ·have := ih h; omega
/-- the root stands last -/
theorem root_last (k p : Int) (cs : List UT) : shU (.nd k p cs) [] = ((shL cs []).1 ++ [⟨k, p, (shL cs []).2⟩], (shL cs []).1.length) := by
 refine put_new Good.nil fun m hm e => ?_
 have := shL_pred (fun v => cntU v < cntU (.nd k p cs)) (fun k' p' cs' h c hc => by
  have h : cntU (.nd k' p' cs') < cntU (.nd k p cs) := h
  have h2 := cntL_mem hc
  rw [cntU] at h
  show cntU c < _
  omega) cs [] Good.nil (fun i h => by simp at h) (fun c hc => by
  have h2 := cntL_mem hc
  show cntU c < cntU (.nd k p cs)
  rw [cntU]
  omega) m hm
 rw [e] at this
 exact absurd this (Nat.lt_irrefl _)
theorem shU_last (u : UT) : (shU u []).2 + 1 = (shU u []).1.length ∧ unf (shU u []).1 ((shU u []).1.length - 1) = u := by
 have h := shU_spec u [] Good.nil
 have e : (shU u []).2 + 1 = (shU u []).1.length := by
  cases u with
  | nd k p cs => rw [root_last]; simp
 refine ⟨e, ?_⟩
 rw [← e, Nat.add_sub_cancel]
 exact h.2.2.2
theorem root_share {t : List Nd} (hm : mayT t = true) : rootU (shareT t) = rootU t := by
 have := (shU_last (rootU t)).2
 unfold shareT
 rw [if_pos hm]
 exact this
theorem share_no {t : List Nd} (hm : mayT t = false) : shareT t = [] := by unfold shareT; rw [hm, if_neg (by simp)]
end Go.RR
set_option linter.unusedVariables false
namespace Go.RR
open Go
abbrev nodeSh : Sh := .st (.cons (.int .i64) (.cons (.int .i64) (.cons intsSh .nil)))
theorem has_node {vs : List V} (h : Has nodeSh vs) : ∃ s : Nd, nodeSh.mk vs = nodeV s := by
 unfold nodeSh at h
 rw [Has] at h
 simp only [HasF] at h
 obtain ⟨a1, b1, rfl, h1, a2, b2, rfl, h2, a3, b3, rfl, h3, rfl⟩ := h
 obtain ⟨k, rfl, -⟩ := has_int h1
 obtain ⟨p, rfl, -⟩ := has_int h2
 obtain ⟨l, rfl, -⟩ := has_ints h3
 exact ⟨⟨k, p, l⟩, rfl⟩
theorem has_tree {vs : List V} (h : Has (.sl nodeSh) vs) : ∃ t : List Nd, vs = [treeV t] ∧ t.length ≤ maxLen :=
 has_sl (enc := nodeV) (e := nodeSh) (fun cs hc => has_node hc) h
end Go.RR
set_option linter.unusedVariables false
set_option linter.unusedSimpArgs false
set_option maxRecDepth 100000
namespace Go.RR.M
open Go Go.RR
def atS : List Sp → Int → Int × Bool
 | [], _ => (0, false)
 | s :: r, k => if k < s.hi - s.lo + 1 then (s.lo + k, true) else atS r (k - (s.hi - s.lo + 1))
/-- numbers, one behind another -/
def rng : Int → Nat → List Int
 | _, 0 => []
 | v, n + 1 => v :: rng (v + 1) n
theorem rng_len : ∀ (n : Nat) (v : Int), (rng v n).length = n
 | 0, _ => rfl
 | n + 1, v => by simp [rng, rng_len n]
theorem rng_get : ∀ (n : Nat) (v : Int) (k : Nat) (h : k < (rng v n).length), (rng v n)[k] = v + k
 | 0, v, k, h => by simp [rng] at h
 | n + 1, v, 0, h => by simp [rng]
 | n + 1, v, k + 1, h => by
  simp only [rng, List.getElem_cons_succ]
  rw [rng_get n (v + 1) k]
  omega
def valS (l : List Sp) : List Int := l.flatMap fun s => rng s.lo (s.hi - s.lo + 1).toNat
theorem valS_cons (s : Sp) (r : List Sp) : valS (s :: r) = rng s.lo (s.hi - s.lo + 1).toNat ++ valS r := rfl
end Go.RR.M
set_option linter.unusedVariables false
set_option linter.unusedSimpArgs false
set_option maxRecDepth 100000
set_option maxHeartbeats 4000000
namespace Go.RR.M
open Go Go.RR
theorem at_loop (l : List Sp) (hl : l.length ≤ 1000000) (hb : ∀ s ∈ l, s.lo ≤ s.hi ∧ -1048576 ≤ s.lo ∧ s.hi ≤ 1048576) : ∀ (d i : Nat) (k : Int) (h : List Ob), i + d = l.length → -2199023255552 ≤ k ∧ k ≤ 2199023255552 → 0 ≤ k → k < spS (l.drop i) →
  ∃ h', evw C y0 i_spans_At_l0 [(1, iv k), (17, spsV l), (18, iv l.length), (19, iv i)] h = some (.ret, [(4, iv (atS (l.drop i) k).1), (5, .bool (atS (l.drop i) k).2)], h')
 | 0, i, k, h, e, hk, h0, h1 => by
  obtain rfl : i = l.length := by omega
  rw [List.drop_length] at h1
  simp only [spS] at h1
  omega
 | d + 1, i, k, h, e, hk, h0, h1 => by
  have hlt : i < l.length := by omega
  have h2 : (i : Int) < l.length := by omega
  have h3 : l[i]? = some l[i] := by simp [hlt]
  have hw := wrap_succ (i := i) (n := l.length) hlt (by omega)
  have hs := hb l[i] (List.getElem_mem hlt)
  rw [List.drop_eq_getElem_cons hlt] at h1 ⊢
  simp only [spS] at h1
  have w1 : IntKind.i64.wrap (l[i].hi - l[i].lo) = l[i].hi - l[i].lo := wrap64 (by omega) (by omega)
  have w2 : IntKind.i64.wrap (l[i].hi - l[i].lo + 1) = l[i].hi - l[i].lo + 1 := wrap64 (by omega) (by omega)
  by_cases c : k < l[i].hi - l[i].lo + 1
  ·have w3 : IntKind.i64.wrap (l[i].lo + k) = l[i].lo + k := wrap64 (by omega) (by omega)
   refine ⟨h ++ [.row 2 [spV l[i]]], ?_⟩
   rw [r_spans_At_0]
   unfold atS
   rw [if_pos c]
   simp [b_spans_At_0, h2, h3, w1, w2, w3, c]
  ·have w3 : IntKind.i64.wrap (k - (l[i].hi - l[i].lo + 1)) = k - (l[i].hi - l[i].lo + 1) := wrap64 (by omega) (by omega)
   obtain ⟨h', ih⟩ := at_loop l hl hb d (i + 1) (k - (l[i].hi - l[i].lo + 1)) (h ++ [.row 2 [spV l[i]]]) (by omega) (by omega) (by omega) (by omega)
   refine ⟨h', ?_⟩
   unfold atS
   rw [if_neg c, ← ih, r_spans_At_0]
   simp [b_spans_At_0, h2, h3, w1, w2, w3, c, hw]
/-- the number at a place -/
def atV (l : List Sp) (k : Int) : Int × Bool := if k < 0 ∨ spN l ≤ k then (0, false) else atS l k
theorem spans_At (l : List Sp) (hl : l.length ≤ 1000000) (k : Int) (h : List Ob) : acw C n_spans_At [spsV l, iv k] h = some (.ret (.tup [iv (atV l k).1, .bool (atV l k).2]), h) := by
 have k1 := spans_Size l (by omega)
 by_cases c1 : k < 0
 ·refine acw_ex (v := .tup [iv (atV l k).1, .bool (atV l k).2]) (CT T_spans_At) rfl rfl (fun _ => rfl) (by simp) ?_
  simp [runW_fin, F_spans_At, i_spans_At, c1, atV]
 by_cases c2 : spN l ≤ k
 ·refine acw_ex (v := .tup [iv (atV l k).1, .bool (atV l k).2]) (CT T_spans_At) rfl rfl (fun _ => rfl) (by simp) ?_
  simp [runW_fin, F_spans_At, i_spans_At, c1, c2, atV, k1]
 have hr : spR none l = true := by
  cases e : spR none l with
  | true => rfl
  | false => simp [spN, e] at c2; omega
 have hn : spN l = spS l := by simp [spN, hr]
 have ht := spS_top hr
 obtain ⟨h', ih⟩ := at_loop l hl (spR_all hr) l.length 0 k [] (by omega) (by omega) (by omega) (by rw [List.drop_zero]; omega)
 rw [List.drop_zero] at ih
 simp only [Int.cast_ofNat_Int] at ih
 refine acw_ex (v := .tup [iv (atV l k).1, .bool (atV l k).2]) (CT T_spans_At) rfl rfl (fun _ => rfl) (by simp) ?_
 have e : atV l k = atS l k := by unfold atV; rw [if_neg (by omega)]
 rw [e]
 exact ⟨h', by simp [runW_fin, F_spans_At, i_spans_At, c1, c2, k1, ih]⟩
end Go.RR.M
set_option linter.unusedVariables false
set_option linter.unusedSimpArgs false
set_option maxRecDepth 100000
set_option maxHeartbeats 4000000
namespace Go.RR.M
open Go Go.RR
end Go.RR.M
set_option linter.unusedVariables false
set_option linter.unusedSimpArgs false
set_option maxRecDepth 100000
set_option maxHeartbeats 4000000
namespace Go.RR.M
open Go Go.RR
theorem valS_len : ∀ {l : List Sp}, (∀ s ∈ l, s.lo ≤ s.hi ∧ -1048576 ≤ s.lo ∧ s.hi ≤ 1048576) → ((valS l).length : Int) = spS l
 | [], _ => rfl
 | s :: r, h => by
  have h1 := h s (by simp)
  have ih := valS_len (l := r) fun x hx => h x (by simp [hx])
  rw [valS_cons, List.length_append, rng_len]
  simp only [spS]
  omega
end Go.RR.M
set_option linter.unusedVariables false
set_option linter.unusedSimpArgs false
set_option maxRecDepth 100000
set_option maxHeartbeats 4000000
namespace Go.RR.M
open Go Go.RR
end Go.RR.M
set_option linter.unusedVariables false
set_option linter.unusedSimpArgs false
set_option maxRecDepth 100000
namespace Go.RR.M
open Go Go.RR
/-- each number stands at its place -/
theorem atS_val : ∀ {l : List Sp} (k : Nat) (h : k < (valS l).length), (∀ s ∈ l, s.lo ≤ s.hi ∧ -1048576 ≤ s.lo ∧ s.hi ≤ 1048576) → atS l k = ((valS l)[k], true)
 | [], k, h, _ => by simp [valS] at h
 | s :: r, k, h, hb => by
  have hs := hb s (by simp)
  have hb' : ∀ s ∈ r, s.lo ≤ s.hi ∧ -1048576 ≤ s.lo ∧ s.hi ≤ 1048576 := fun x hx => hb x (by simp [hx])
  have hl : (valS (s :: r)).length = (s.hi - s.lo + 1).toNat + (valS r).length := by rw [valS_cons, List.length_append, rng_len]
  unfold atS
  by_cases c : (k : Int) < s.hi - s.lo + 1
  ·rw [if_pos c]
   have h1 : k < (rng s.lo (s.hi - s.lo + 1).toNat).length := by rw [rng_len]; omega
   congr 1
   simp only [valS_cons]
   rw [List.getElem_append_left h1, rng_get _ _ _ h1]
  ·rw [if_neg c]
   have h1 : (rng s.lo (s.hi - s.lo + 1).toNat).length ≤ k := by rw [rng_len]; omega
   have h2 : k - (s.hi - s.lo + 1).toNat < (valS r).length := by omega
   have ih := atS_val (l := r) (k - (s.hi - s.lo + 1).toNat) h2 hb'
   rw [show (k : Int) - (s.hi - s.lo + 1) = ((k - (s.hi - s.lo + 1).toNat : Nat) : Int) by omega, ih]
   congr 1
   simp only [valS_cons]
   rw [List.getElem_append_right h1]
   congr 1
   rw [rng_len]
end Go.RR.M
