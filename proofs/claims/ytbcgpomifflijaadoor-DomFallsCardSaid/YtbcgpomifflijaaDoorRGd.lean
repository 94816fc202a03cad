/- The second reading's table for this seat: the functions that are known by the library's contracts. -/
import Derived.Test.YtbcgpomifflijaaDoorR5
import Derived.Test.YtbcgpomifflijaaDoorRId
import Derived.Laws.MathBits
import Derived.Lib.BitFns
import Derived.Shelf.Spec.TrailingZeros
import Derived.Lib.TrailingZeros
set_option linter.unusedVariables false
set_option linter.unusedSimpArgs false
set_option linter.unusedVariables false
set_option linter.unusedSimpArgs false
set_option maxRecDepth 100000
namespace Go.RR.M
open Go Go.RR
def S (f : Nat) (a : List V) : Option V :=
  if f = n_slices_Clone_sint_int then s_clone 1 8 a
  else if f = n_math_bits_TrailingZeros64 then (match a with
    | [.int .u64 x] => if 0 ≤ x ∧ x < 18446744073709551616 then some (.int .i64 (Go.Lib.ctz 64 x.toNat)) else none
    | _ => none)
  else if f = n_math_bits_Len64 then (match a with
    | [.int .u64 x] => if 0 ≤ x ∧ x < 18446744073709551616 then some (.int .i64 (Go.Lib.bitLen x.toNat)) else none
    | _ => none)
  else none
def H (f : Nat) (a : List V) (h : List Ob) : Option (Out × List Ob) :=
  if f = n_slices_Sort_sint_int then sortH a h
  else none
def C : Cx := ⟨T, S, H⟩
theorem CT {f : Nat} {F : F} (h : T f = some F) : C.T f = some F := h
end Go.RR.M
set_option linter.unusedVariables false
set_option linter.unusedSimpArgs false
set_option maxRecDepth 100000
set_option maxHeartbeats 4000000
namespace Go.RR.M
open Go Go.RR
abbrev iv (n : Int) : V := .int .i64 n
/-- a list, one by one -/
theorem val_loop (Y : Yl) (y : Nat) (l : List Int) (hl : l.length ≤ 1000000000000) (H : Nat → List Ob) (hY : ∀ i (hi : i < l.length), Y [.mp y, iv l[i]] (H i) = some (.ret (.bool true), H (i + 1))) : ∀ k i, i + k = l.length →
    evw C Y i_slices_Values_sint_int_1_l0 [(0, .mp y), (5, intsV l), (6, iv l.length), (7, iv i)] (H i) = some (.ext 0, [(0, .mp y), (5, intsV l), (6, iv l.length), (7, iv l.length), (8, .bool false)], H l.length)
  | 0, i, e => by
    obtain rfl : i = l.length := by omega
    rw [r_slices_Values_sint_int_1_0]
    simp [b_slices_Values_sint_int_1_0]
  | k + 1, i, e => by
    have hlt : i < l.length := by omega
    have ih := val_loop Y y l hl H hY k (i + 1) (by omega)
    rw [r_slices_Values_sint_int_1_0]
    have h2 : (i : Int) < l.length := by omega
    have h3 : l[i]? = some l[i] := by simp [hlt]
    simp only [Int.natCast_add, Int.cast_ofNat_Int] at ih
    have hw := wrap_succ (i := i) (n := l.length) hlt (by omega)
    simp [b_slices_Values_sint_int_1_0, h2, h3, hw, hY i hlt]
    exact ih
theorem val_iter (Y : Yl) (y : Nat) (l : List Int) (hl : l.length ≤ 1000000000000) (H : Nat → List Ob) (hY : ∀ i (hi : i < l.length), Y [.mp y, iv l[i]] (H i) = some (.ret (.bool true), H (i + 1))) :
    itw C Y n_slices_Values_sint_int_1 [.mp y, .pin (intsV l) 0] (H 0) = some (.ret (.tup []), H l.length) := by
  rw [itw_T (CT T_slices_Values_sint_int_1)]
  have h0 := val_loop Y y l hl H hY l.length 0 (by omega)
  simp only [Int.cast_ofNat_Int] at h0
  simp [runW_fin, F_slices_Values_sint_int_1, i_slices_Values_sint_int_1, h0]
theorem values (l : List Int) (h : List Ob) : acw C n_slices_Values_sint_int [intsV l] h = some (.ret (.fn (.func n_slices_Values_sint_int_1) [] [.pin (intsV l) 0]), h) := by
  refine acw_pure (a2 := [intsV l]) (h' := [.row 1 [intsV l]]) (v := .fn (.func n_slices_Values_sint_int_1) [] [.ptr 0 0 0 1]) (v' := .fn (.func n_slices_Values_sint_int_1) [] [.pin (intsV l) 0]) (CT T_slices_Values_sint_int) rfl rfl ?_ (frz_box (by rfl) rfl) (by simp)
  simp [runW_fin, F_slices_Values_sint_int, i_slices_Values_sint_int]
abbrev accS (xs : List V) : List Ob := accH 1 [.row 1 [accV 1 2 xs], .lp .rdy] xs
theorem app_round (f : V) (xs : List V) (n : Int) (hx : xs.length ≤ 1000000000000) : rnd (evw C y0 ra_slices_AppendSeq_sint_int_0) (evw C y0 rb_slices_AppendSeq_sint_int_0) 1 [7] [(2, .ptr 0 0 0 1), (4, .nsl 1), (6, f)] [.mp 1, iv n] (accS xs) = some (.ret (.bool true), accS (xs ++ [iv n])) := by
  have k4 : bsfL (.int .i64 0) [iv n] = some (.sl 1 [iv n]) := rfl
  cases xs with
  | nil =>
    have k5 : ∀ nid, appV nid [.row 1 [.nsl 1], .lp .bsy] 1 8 (.nsl 1) (.sl 1 [iv n]) = some (.own nid 0 1 1, some (nid, .row 1 [iv n])) := fun nid => appV_nsl rfl (by simp) rfl (by simp) (by simp)
    simp [accV, accH, ra_slices_AppendSeq_sint_int_0, rb_slices_AppendSeq_sint_int_0, k4, k5]
  | cons a r =>
    have k5 : ∀ nid, appV nid [.row 1 [.own 2 0 (r.length + 1) (r.length + 1)], .lp .bsy, .row 1 (a :: r)] 1 8 (.own 2 0 (r.length + 1) (r.length + 1)) (.sl 1 [iv n]) = some (.own 2 0 (r.length + 1 + 1) (r.length + 1 + 1), some (2, .row 1 (a :: r ++ [iv n]))) := fun nid => appV_own rfl (by simp) rfl (by simp) (by simp) (by simp at hx ⊢; omega) (by simp at hx ⊢; omega)
    simp [accV, accH, ra_slices_AppendSeq_sint_int_0, rb_slices_AppendSeq_sint_int_0, k4, k5]
theorem appendSeq (l : List Int) (hl : l.length ≤ 1000000000000) : acw C n_slices_AppendSeq_sint_int [.nsl 1, .fn (.func n_slices_Values_sint_int_1) [] [.pin (intsV l) 0]] [] =
    some (.ret (accV 1 2 (l.map (V.int .i64))), accH 1 [.row 1 [accV 1 2 (l.map (V.int .i64))], .dead] (l.map (V.int .i64))) := by
  rw [acw_hm (CT T_slices_AppendSeq_sint_int) rfl]
  have key := val_iter (rnd (evw C y0 ra_slices_AppendSeq_sint_int_0) (evw C y0 rb_slices_AppendSeq_sint_int_0) 1 [7] [(2, .ptr 0 0 0 1), (4, .nsl 1), (6, .fn (.func n_slices_Values_sint_int_1) [] [.pin (intsV l) 0])]) 1 l hl (fun i => accS ((l.map (V.int .i64)).take i)) (fun i hi => by
    have := app_round (.fn (.func n_slices_Values_sint_int_1) [] [.pin (intsV l) 0]) ((l.map (V.int .i64)).take i) l[i] (by simp; omega)
    rw [this, List.take_succ_eq_append_getElem (by simpa using hi)]
    simp)
  have e0 : List.take l.length (l.map (V.int .i64)) = l.map (V.int .i64) := by rw [show l.length = (l.map (V.int .i64)).length by simp]; exact List.take_length
  simp only [e0, List.take_zero] at key
  by_cases e : l = []
  · subst e
    simp [accV, accH] at key
    simp [runW_fin, F_slices_AppendSeq_sint_int, i_slices_AppendSeq_sint_int, key, accV, accH]
  · simp [accV, accH, e] at key
    simp [runW_fin, F_slices_AppendSeq_sint_int, i_slices_AppendSeq_sint_int, key, accV, accH, e]
theorem collect (l : List Int) (hl : l.length ≤ 1000000000000) : acw C n_slices_Collect_int [.fn (.func n_slices_Values_sint_int_1) [] [.pin (intsV l) 0]] [] =
    some (.ret (accV 1 2 (l.map (V.int .i64))), accH 1 [.row 1 [accV 1 2 (l.map (V.int .i64))], .dead] (l.map (V.int .i64))) := by
  rw [acw_hm (CT T_slices_Collect_int) rfl]
  simp [runW_fin, F_slices_Collect_int, i_slices_Collect_int, appendSeq l hl]
theorem sorted (l : List Int) (hl : l.length ≤ 1000000000000) (h : List Ob) : acw C n_slices_Sorted_int [.fn (.func n_slices_Values_sint_int_1) [] [.pin (intsV l) 0]] h = some (.ret (intsV (sortI l)), h) := by
  have hc := collect l hl
  by_cases e : l = []
  · subst e
    simp [accV, accH] at hc
    have h1 : ∀ h, acw C n_slices_Sort_sint_int [.nsl 1] h = some (.ret (.tup []), h) := fun h => acw_H rfl rfl
    refine acw_pure (a2 := [.fn (.func n_slices_Values_sint_int_1) [] [.pin (intsV []) 0]]) (h' := [.row 1 [.nsl 1], .dead]) (v := .nsl 1) (CT T_slices_Sorted_int) rfl rfl ?_ rfl (by simp)
    simp [runW_fin, F_slices_Sorted_int, i_slices_Sorted_int, hc, h1]
  · simp [accV, accH, e] at hc
    have hp : 0 < l.length := List.length_pos_iff.2 e
    have hs : (sortI l).length = l.length := sortI_length l
    have h1 : acw C n_slices_Sort_sint_int [.own 2 0 l.length l.length] [.row 1 [.own 2 0 l.length l.length], .dead, .row 1 (l.map (V.int .i64))] = some (.ret (.tup []), [.row 1 [.own 2 0 l.length l.length], .dead, .row 1 ((sortI l).map (V.int .i64))]) := acw_H rfl (by
      simp only [C, H, if_true, sortH, List.getElem?_cons_succ, List.getElem?_cons_zero, ints_map, List.length_map, true_and]
      rw [if_pos (by omega)]
      rfl)
    refine acw_pure (a2 := [.fn (.func n_slices_Values_sint_int_1) [] [.pin (intsV l) 0]]) (h' := [.row 1 [.own 2 0 l.length l.length], .dead, .row 1 ((sortI l).map (V.int .i64))]) (v := .own 2 0 l.length l.length) (CT T_slices_Sorted_int) rfl rfl ?_ (frz_own_ints rfl hs.symm 10) (by simp)
    simp [runW_fin, F_slices_Sorted_int, i_slices_Sorted_int, hc, h1]
end Go.RR.M
set_option linter.unusedVariables false
set_option linter.unusedSimpArgs false
set_option maxRecDepth 100000
namespace Go.RR
/-- a set without its least -/
def lowc (b : Nat) : Nat := b &&& (b - 1)
/-- what is in a set, from the least on -/
def lsts : Nat → Nat → List Nat
  | 0, _ => []
  | n + 1, b => if b = 0 then [] else Go.Lib.ctz 64 b :: lsts n (lowc b)
/-- so many steps are enough -/
def done : Nat → Nat → Prop
  | 0, b => b = 0
  | n + 1, b => b = 0 ∨ done n (lowc b)
theorem lowc_lt {b : Nat} (h : b < 18446744073709551616) : lowc b < 18446744073709551616 := Nat.lt_of_le_of_lt Nat.and_le_left h
/-- the places of a number's ones -/
def posL : Nat → Nat → List Nat
  | 0, _ => []
  | n + 1, b => if b % 2 = 1 then 0 :: (posL n (b / 2)).map (· + 1) else (posL n (b / 2)).map (· + 1)
theorem posL_zero : ∀ n, posL n 0 = []
  | 0 => rfl
  | n + 1 => by simp [posL, posL_zero n]
theorem lowc_even (c : Nat) : lowc (2 * c) = 2 * lowc c := by
  by_cases h : c = 0
  · subst h; rfl
  · have h1 : (2 * c &&& (2 * c - 1)) / 2 = c &&& (c - 1) := by
      rw [Nat.and_div_two, show 2 * c / 2 = c by omega, show (2 * c - 1) / 2 = c - 1 by omega]
    have h2 : ¬ (2 * c &&& (2 * c - 1)) % 2 = 1 := by rw [Nat.and_mod_two_eq_one]; omega
    unfold lowc
    omega
theorem lowc_odd (c : Nat) : lowc (2 * c + 1) = 2 * c := by
  have h1 : (2 * c + 1 &&& (2 * c + 1 - 1)) / 2 = c := by
    rw [Nat.and_div_two, show (2 * c + 1) / 2 = c by omega, show (2 * c + 1 - 1) / 2 = c by omega, Nat.and_self]
  have h2 : ¬ (2 * c + 1 &&& (2 * c + 1 - 1)) % 2 = 1 := by rw [Nat.and_mod_two_eq_one]; omega
  unfold lowc
  omega
theorem ctzFrom_fuel : ∀ (f g x : Nat), 0 < x → x < 2 ^ f → f ≤ g → Go.Lib.ctzFrom g x = Go.Lib.ctzFrom f x
  | 0, g, x, h0, h1, _ => by simp at h1; omega
  | f + 1, 0, x, h0, h1, h2 => by omega
  | f + 1, g + 1, x, h0, h1, h2 => by
    unfold Go.Lib.ctzFrom
    split
    · rfl
    · rw [ctzFrom_fuel f g (x / 2) (by omega) (by rw [Nat.pow_succ] at h1; omega) (by omega)]
theorem ctz_even {c : Nat} (h0 : c ≠ 0) (h : c < 2 ^ 63) : Go.Lib.ctz 64 (2 * c) = Go.Lib.ctz 64 c + 1 := by
  unfold Go.Lib.ctz
  rw [if_neg (by omega), if_neg h0, ctzFrom_fuel 63 64 c (by omega) h (by omega)]
  show Go.Lib.ctzFrom (63 + 1) (2 * c) = _
  rw [Go.Lib.ctzFrom, if_neg (by omega), show 2 * c / 2 = c by omega]
  omega
theorem ctz_odd (c : Nat) : Go.Lib.ctz 64 (2 * c + 1) = 0 := by
  unfold Go.Lib.ctz
  rw [if_neg (by omega)]
  show Go.Lib.ctzFrom (63 + 1) (2 * c + 1) = _
  rw [Go.Lib.ctzFrom, if_pos (by omega)]
theorem lowc_le (b : Nat) : lowc b ≤ b := Nat.and_le_left
theorem lsts_zero : ∀ m, lsts m 0 = []
  | 0 => rfl
  | m + 1 => by simp [lsts]
theorem lsts_even : ∀ (m c : Nat), c < 2 ^ 63 → lsts m (2 * c) = (lsts m c).map (· + 1)
  | 0, _, _ => rfl
  | m + 1, c, h => by
    by_cases h0 : c = 0
    · subst h0; simp [lsts]
    · have hl := lowc_le c
      rw [lsts, if_neg (by omega), lsts, if_neg h0, List.map_cons, ctz_even h0 h, lowc_even, lsts_even m _ (by omega)]
theorem lsts_pos : ∀ (n m b : Nat), n ≤ 64 → b < 2 ^ n → n ≤ m → lsts m b = posL n b
  | 0, m, b, _, h, _ => by
    obtain rfl : b = 0 := by simp at h; exact h
    rw [lsts_zero]; rfl
  | n + 1, 0, b, _, h, hm => by omega
  | n + 1, m + 1, b, hn, h, hm => by
    rw [Nat.pow_succ] at h
    have hp : 2 ^ n ≤ 2 ^ 63 := Nat.pow_le_pow_right (by omega) (by omega)
    by_cases c : b % 2 = 1
    · obtain ⟨k, rfl⟩ : ∃ k, b = 2 * k + 1 := ⟨b / 2, by omega⟩
      rw [lsts, if_neg (by omega), ctz_odd, lowc_odd, lsts_even m k (by omega), lsts_pos n m k (by omega) (by omega) (by omega), posL, if_pos c, show (2 * k + 1) / 2 = k by omega]
    · obtain ⟨k, rfl⟩ : ∃ k, b = 2 * k := ⟨b / 2, by omega⟩
      rw [lsts_even (m + 1) k (by omega), lsts_pos n (m + 1) k (by omega) (by omega) (by omega), posL, if_neg c, show 2 * k / 2 = k by omega]
theorem done_zero : ∀ m, done m 0
  | 0 => rfl
  | m + 1 => .inl rfl
theorem done_even : ∀ (m c : Nat), done m c → done m (2 * c)
  | 0, c, h => by have : c = 0 := h; subst this; rfl
  | m + 1, c, h => by
    rcases h with h | h
    · subst h; exact .inl rfl
    · refine .inr ?_
      rw [lowc_even]
      exact done_even m _ h
theorem done_pos : ∀ (n m b : Nat), b < 2 ^ n → n ≤ m → done m b
  | 0, m, b, h, _ => by
    obtain rfl : b = 0 := by simp at h; exact h
    exact done_zero m
  | n + 1, 0, b, h, hm => by omega
  | n + 1, m + 1, b, h, hm => by
    rw [Nat.pow_succ] at h
    by_cases c : b % 2 = 1
    · obtain ⟨k, rfl⟩ : ∃ k, b = 2 * k + 1 := ⟨b / 2, by omega⟩
      refine .inr ?_
      rw [lowc_odd]
      exact done_even m k (done_pos n m k (by omega) (by omega))
    · obtain ⟨k, rfl⟩ : ∃ k, b = 2 * k := ⟨b / 2, by omega⟩
      exact done_even (m + 1) k (done_pos n (m + 1) k (by omega) (by omega))
theorem posL_fuel : ∀ (n m b : Nat), b < 2 ^ n → n ≤ m → posL m b = posL n b
  | 0, m, b, h, _ => by
    obtain rfl : b = 0 := by simp at h; exact h
    rw [posL_zero]; rfl
  | n + 1, 0, b, h, hm => by omega
  | n + 1, m + 1, b, h, hm => by
    rw [Nat.pow_succ] at h
    rw [posL, posL, posL_fuel n m (b / 2) (by omega) (by omega)]
theorem posL_lt : ∀ (n b k : Nat), k ∈ posL n b → k < n
  | 0, b, k, h => by simp [posL] at h
  | n + 1, b, k, h => by
    unfold posL at h
    have key : k ∈ (posL n (b / 2)).map (· + 1) → k < n + 1 := fun h => by
      obtain ⟨j, hj, rfl⟩ := List.mem_map.1 h
      have := posL_lt n _ j hj
      omega
    split at h
    · rcases List.mem_cons.1 h with rfl | h
      · omega
      · exact key h
    · exact key h
theorem posL_cnt : ∀ (n b : Nat), (posL n b).length ≤ n
  | 0, b => by simp [posL]
  | n + 1, b => by
    have := posL_cnt n (b / 2)
    unfold posL
    split <;> simp <;> omega
theorem posL_len : ∀ (n b : Nat), (posL n b).length = Go.Lib.popAux n b
  | 0, b => rfl
  | n + 1, b => by
    unfold posL Go.Lib.popAux
    split
    · rename_i h; simp [posL_len n, h]; omega
    · rename_i h
      have : b % 2 = 0 := by omega
      simp [posL_len n, this]
theorem posL_nil : ∀ (n b : Nat), b < 2 ^ n → (posL n b = [] ↔ b = 0)
  | 0, b, h => by simp at h; simp [posL, h]
  | n + 1, b, h => by
    rw [Nat.pow_succ] at h
    have ih := posL_nil n (b / 2) (by omega)
    unfold posL
    split
    · simp; omega
    · rw [List.map_eq_nil_iff, ih]; omega
/-- the values at a number's ones -/
def leftR : List Int → Nat → List Int
  | [], _ => []
  | v :: r, b => if b % 2 = 1 then v :: leftR r (b / 2) else leftR r (b / 2)
theorem leftR_pos : ∀ (l : List Int) (b : Nat), (posL l.length b).map (fun k => l.getD k 0) = leftR l b
  | [], b => rfl
  | v :: r, b => by
    have ih := leftR_pos r (b / 2)
    have e : ((posL r.length (b / 2)).map (· + 1)).map (fun k => (v :: r).getD k 0) = leftR r (b / 2) := by
      rw [List.map_map, ← ih]
      rfl
    show (posL (r.length + 1) b).map _ = _
    unfold posL leftR
    split
    · rw [List.map_cons, e]; rfl
    · exact e
theorem leftR_len (l : List Int) (b : Nat) : (leftR l b).length = (posL l.length b).length := by rw [← leftR_pos, List.length_map]
theorem leftR_mem : ∀ (l : List Int) (b : Nat) (v : Int), v ∈ leftR l b → v ∈ l
  | [], b, v, h => by simp [leftR] at h
  | x :: r, b, v, h => by
    unfold leftR at h
    split at h
    · rcases List.mem_cons.1 h with rfl | h
      · simp
      · exact List.mem_cons_of_mem _ (leftR_mem r _ v h)
    · exact List.mem_cons_of_mem _ (leftR_mem r _ v h)
/-- some of a number's ones -/
def keepB (p : Int → Bool) : List Int → Nat → Nat
  | [], _ => 0
  | v :: r, b => (if b % 2 = 1 ∧ p v = true then 1 else 0) + 2 * keepB p r (b / 2)
theorem keepB_lt (p : Int → Bool) : ∀ (l : List Int) (b : Nat), keepB p l b < 2 ^ l.length
  | [], b => by simp [keepB]
  | v :: r, b => by
    have ih := keepB_lt p r (b / 2)
    unfold keepB
    rw [List.length_cons, Nat.pow_succ]
    split <;> omega
theorem keepB_congr {p q : Int → Bool} : ∀ (l : List Int) (b : Nat), (∀ v ∈ leftR l b, p v = q v) → keepB p l b = keepB q l b
  | [], b, _ => rfl
  | v :: r, b, h => by
    unfold keepB
    unfold leftR at h
    by_cases c : b % 2 = 1
    · rw [if_pos c] at h
      rw [keepB_congr r (b / 2) (fun x hx => h x (List.mem_cons_of_mem _ hx)), h v (by simp)]
    · rw [if_neg c] at h
      rw [keepB_congr r (b / 2) h]
      simp [c]
/-- a one more, above all -/
theorem or_pow {a j : Nat} (h : a < 2 ^ j) : a ||| 2 ^ j = a + 2 ^ j := by
  rw [Nat.or_comm, ← Nat.mul_one (2 ^ j), ← Nat.two_pow_add_eq_or_of_lt h]
  omega
theorem keepB_fold (p : Int → Bool) : ∀ (l : List Int) (b j acc : Nat) (f : Nat → Int), (∀ k, k < l.length → f (k + j) = l.getD k 0) → acc < 2 ^ j → ((posL l.length b).map (· + j)).foldl (fun a k => if p (f k) = true then a ||| 2 ^ k else a) acc = acc + 2 ^ j * keepB p l b
  | [], b, j, acc, f, hf, h => by simp [posL, keepB]
  | v :: r, b, j, acc, f, hf, h => by
    have e : ∀ L : List Nat, (L.map (· + 1)).map (· + j) = L.map (· + (j + 1)) := fun L => by
      rw [List.map_map]
      apply List.map_congr_left
      intro k _
      simp only [Function.comp]
      omega
    have hf' : ∀ k, k < r.length → f (k + (j + 1)) = r.getD k 0 := fun k hk => by
      have := hf (k + 1) (by simp; omega)
      rw [show k + (j + 1) = k + 1 + j by omega, this]
      rfl
    have hv : f j = v := by
      have := hf 0 (by simp)
      rw [Nat.zero_add] at this
      exact this
    show ((posL (r.length + 1) b).map (· + j)).foldl _ acc = _
    unfold posL keepB
    have hp : 2 ^ (j + 1) = 2 ^ j * 2 := Nat.pow_succ ..
    by_cases c : b % 2 = 1
    · rw [if_pos c, List.map_cons, List.foldl_cons, Nat.zero_add, hv, e]
      by_cases c2 : p v = true
      · rw [if_pos c2, or_pow h, keepB_fold p r (b / 2) (j + 1) _ f hf' (by omega), if_pos ⟨c, c2⟩, hp, Nat.mul_assoc, Nat.mul_add, Nat.mul_one]
        omega
      · rw [if_neg c2, keepB_fold p r (b / 2) (j + 1) _ f hf' (by omega), if_neg (fun h => c2 h.2), hp, Nat.mul_assoc, Nat.zero_add]
    · rw [if_neg c, e, keepB_fold p r (b / 2) (j + 1) _ f hf' (by omega), if_neg (fun h => c h.1), hp, Nat.mul_assoc, Nat.zero_add]
end Go.RR
set_option linter.unusedVariables false
set_option linter.unusedSimpArgs false
set_option maxRecDepth 100000
set_option maxHeartbeats 4000000
namespace Go.RR
theorem andU (a b : Nat) (ha : a < 18446744073709551616) (hb : b < 18446744073709551616) : IntKind.u64.wrap ((BitVec.ofInt IntKind.u64.bits (a : Int) &&& BitVec.ofInt IntKind.u64.bits (b : Int)).toNat : Int) = ((a &&& b : Nat) : Int) := by
  have hx : a &&& b < 2 ^ 64 := Nat.and_lt_two_pow _ (by omega)
  have h1 : (BitVec.ofInt IntKind.u64.bits (a : Int)).toNat = a := by
    show (BitVec.ofInt 64 (a : Int)).toNat = a
    rw [BitVec.ofInt_natCast, BitVec.toNat_ofNat]; exact Nat.mod_eq_of_lt (by omega)
  have h2 : (BitVec.ofInt IntKind.u64.bits (b : Int)).toNat = b := by
    show (BitVec.ofInt 64 (b : Int)).toNat = b
    rw [BitVec.ofInt_natCast, BitVec.toNat_ofNat]; exact Nat.mod_eq_of_lt (by omega)
  rw [BitVec.toNat_and, h1, h2]
  exact wrapU (by omega) (by omega)
theorem andU' (a b : Nat) (ha : a < 18446744073709551616) (hb : b < 18446744073709551616) : IntKind.u64.wrap ((a % 2 ^ IntKind.u64.bits &&& b % 2 ^ IntKind.u64.bits : Nat) : Int) = ((a &&& b : Nat) : Int) := by
  rw [Nat.mod_eq_of_lt (show a < 2 ^ IntKind.u64.bits from ha), Nat.mod_eq_of_lt (show b < 2 ^ IntKind.u64.bits from hb)]
  have hx : a &&& b < 2 ^ 64 := Nat.and_lt_two_pow _ (by omega)
  exact wrapU (by omega) (by omega)
end Go.RR
namespace Go.RR.M
open Go Go.RR
abbrev uv (n : Nat) : V := .int .u64 n
theorem tz (b : Nat) (hb : b < 18446744073709551616) (h : List Ob) : acw C n_math_bits_TrailingZeros64 [uv b] h = some (.ret (iv (Go.Lib.ctz 64 b)), h) := by
  refine acw_S (a2 := [uv b]) rfl rfl rfl ?_ rfl
  have h1 : (0 : Int) ≤ b ∧ (b : Int) < 18446744073709551616 := by omega
  simp only [C, S, if_neg (show ¬ n_math_bits_TrailingZeros64 = n_slices_Clone_sint_int from by decide), if_true, if_pos h1, Int.toNat_natCast]
theorem least (b : Nat) (hb : b < 18446744073709551616) (h : List Ob) : acw C n_bits_Least [uv b] h = some (.ret (iv (if b = 0 then -1 else Go.Lib.ctz 64 b)), h) := by
  refine acw_ex (v := iv (if b = 0 then -1 else Go.Lib.ctz 64 b)) (CT T_bits_Least) rfl rfl (fun _ => rfl) (by simp) ?_
  by_cases e : b = 0
  · subst e
    simp [runW_fin, F_bits_Least, i_bits_Least]
  · have e' : ¬ (b : Int) = 0 := by omega
    simp [runW_fin, F_bits_Least, i_bits_Least, e, ieq, ine, e', tz b hb]
theorem all_loop (Y : Yl) (y ib : Nat) (G : List Nat → Nat → List Ob) (hY : ∀ pre b, pre.length < 64 → Y [.mp y, iv (Go.Lib.ctz 64 b)] (G pre b) = some (.ret (.bool true), G (pre ++ [Go.Lib.ctz 64 b]) b))
    (hB : ∀ pre b, (G pre b)[ib]? = some (.row 1 [uv b])) (hS : ∀ pre b b', (G pre b).set ib (.row 1 [uv b']) = G pre b') : ∀ (n b : Nat) (pre : List Nat), b < 18446744073709551616 → done n b → pre.length + n ≤ 64 →
    evw C Y i_bits_all_1_l0 [(0, .mp y), (1, .ptr ib 0 0 1)] (G pre b) = some (.ext 0, [(0, .mp y), (1, .ptr ib 0 0 1), (4, .bool false)], G (pre ++ lsts n b) 0) := by
  have base : ∀ pre, evw C Y i_bits_all_1_l0 [(0, .mp y), (1, .ptr ib 0 0 1)] (G pre 0) = some (.ext 0, [(0, .mp y), (1, .ptr ib 0 0 1), (4, .bool false)], G pre 0) := by
    intro pre
    have h0 := hB pre 0
    simp only [uv, Int.cast_ofNat_Int] at h0
    rw [r_bits_all_1_0]
    simp [b_bits_all_1_0, h0, ieq, ine]
  intro n
  induction n with
  | zero =>
    intro b pre hb hd hl
    have : b = 0 := hd
    subst this
    simpa [lsts] using base pre
  | succ n ih =>
    intro b pre hb hd hl
    by_cases e : b = 0
    · subst e
      simpa [lsts] using base pre
    · have hd : done n (lowc b) := by rcases hd with h | h; exact absurd h e; exact h
      have ih := ih (lowc b) (pre ++ [Go.Lib.ctz 64 b]) (lowc_lt hb) hd (by simp; omega)
      have e' : ¬ (b : Int) = 0 := by omega
      have h0 := hB pre b
      have h1 := hB (pre ++ [Go.Lib.ctz 64 b]) b
      have hl := least b hb (G pre b)
      rw [if_neg e] at hl
      have hw : IntKind.u64.wrap ((b : Int) - 1) = ((b - 1 : Nat) : Int) := by rw [wrapU (by omega) (by omega)]; omega
      have ha := andU' b (b - 1) hb (by omega)
      have hk := (List.getElem?_eq_some_iff.1 h1).1
      rw [r_bits_all_1_0]
      simp [b_bits_all_1_0, h0, h1, ieq, ine, e, e', hl, hY pre b (by omega), hw, ha, wr_lt hk]
      have hs := hS (pre ++ [Go.Lib.ctz 64 b]) b (lowc b)
      unfold lsts
      rw [if_neg e]
      simp only [uv, lowc] at hs ih ⊢
      rw [hs, ih]
      simp
theorem allF (b : Nat) (h : List Ob) : acw C n_bits_all [uv b] h = some (.ret (.fn (.func n_bits_all_1) [] [.ptr h.length 0 0 1]), h ++ [.row 1 [uv b]]) := by
  rw [acw_hm (CT T_bits_all) rfl]
  simp [runW_fin, F_bits_all, i_bits_all]
abbrev nsV (pre : List Nat) : List V := pre.map fun n : Nat => iv (n : Int)
abbrev accL (pre : List Nat) (b : Nat) : List Ob := accH 1 [.row 1 [accV 1 3 (nsV pre)], .row 1 [uv b], .lp .rdy] (nsV pre)
abbrev frL : Fr := [(2, .nsl 1), (3, .ptr 0 0 0 1), (6, .fn (.func n_bits_all_1) [] [.ptr 1 0 0 1])]
theorem list_round (pre : List Nat) (b n : Nat) (hx : pre.length ≤ 1000000000000) : rnd (evw C y0 ra_bits_List_0) (evw C y0 rb_bits_List_0) 2 [7] frL [.mp 2, iv n] (accL pre b) = some (.ret (.bool true), accL (pre ++ [n]) b) := by
  have k4 : bsfL (.int .i64 0) [iv n] = some (.sl 1 [iv n]) := rfl
  cases pre with
  | nil =>
    have k5 : ∀ nid, appV nid [.row 1 [.nsl 1], .row 1 [uv b], .lp .bsy] 1 8 (.nsl 1) (.sl 1 [iv n]) = some (.own nid 0 1 1, some (nid, .row 1 [iv n])) := fun nid => appV_nsl rfl (by simp) rfl (by simp) (by simp)
    simp [accV, accH, ra_bits_List_0, rb_bits_List_0, k4, k5]
  | cons a r =>
    have k5 : ∀ nid, appV nid [.row 1 [.own 3 0 (r.length + 1) (r.length + 1)], .row 1 [uv b], .lp .bsy, .row 1 (iv a :: nsV r)] 1 8 (.own 3 0 (r.length + 1) (r.length + 1)) (.sl 1 [iv n]) = some (.own 3 0 (r.length + 1 + 1) (r.length + 1 + 1), some (3, .row 1 (iv a :: nsV r ++ [iv n]))) := fun nid => appV_own rfl (by simp) rfl (by simp) (by simp) (by simp at hx ⊢; omega) (by simp at hx ⊢; omega)
    simp [accV, accH, ra_bits_List_0, rb_bits_List_0, k4, k5]
theorem bits_List (b : Nat) (hb : b < 18446744073709551616) (hd : done 64 b) (h : List Ob) : acw C n_bits_List [uv b] h = some (.ret (.sl 1 (nsV (lsts 64 b))), h) := by
  have key : itw C (rnd (evw C y0 ra_bits_List_0) (evw C y0 rb_bits_List_0) 2 [7] frL) n_bits_all_1 [.mp 2, .ptr 1 0 0 1] (accL [] b) = some (.ret (.tup []), accL (lsts 64 b) 0) := by
    rw [itw_T (CT T_bits_all_1)]
    have h0 := all_loop (rnd (evw C y0 ra_bits_List_0) (evw C y0 rb_bits_List_0) 2 [7] frL) 2 1 accL (fun pre b hp => list_round pre b _ (by omega)) (fun pre b => by
      unfold accL accH; split <;> rfl) (fun pre b b' => by unfold accL accH; split <;> rfl) 64 b [] hb hd (by simp)
    simp [runW_fin, F_bits_all_1, i_bits_all_1] at h0 ⊢
    rw [h0]
    simp
  obtain ⟨l, hl⟩ : ∃ l, l = lsts 64 b := ⟨_, rfl⟩
  rw [← hl] at key ⊢
  have ha := allF b [.row 1 [.nsl 1]]
  simp at ha
  by_cases e : l = []
  · subst e
    simp [accV, accH] at key
    refine acw_pure (a2 := [uv b]) (h' := [.row 1 [.nsl 1], .row 1 [uv 0], .dead]) (v := .nsl 1) (CT T_bits_List) rfl rfl ?_ rfl (by simp)
    simp [runW_fin, F_bits_List, i_bits_List, ha, key]
  · simp [accV, accH, e] at key
    refine acw_pure (a2 := [uv b]) (h' := [.row 1 [.own 3 0 l.length l.length], .row 1 [uv 0], .dead, .row 1 (nsV l)]) (v := .own 3 0 l.length l.length) (CT T_bits_List) rfl rfl ?_ ?_ (by simp)
    · simp [runW_fin, F_bits_List, i_bits_List, ha, key]
    · have := frz_own_ints (h := [.row 1 [.own 3 0 l.length l.length], .row 1 [uv 0], .dead, .row 1 (nsV l)]) (id := 3) (n := l.length) (l := l.map fun n : Nat => (n : Int)) (by simp) (by simp) 10
      rw [show fdepth = 10 + 2 from rfl, this]
      simp
end Go.RR.M
set_option linter.unusedVariables false
set_option linter.unusedSimpArgs false
set_option maxRecDepth 100000
namespace Go.RR.M
open Go Go.RR
theorem spans_Right_loop (l : List Sp) (hl : l.length ≤ 4611686018427387904) : ∀ (d i : Nat) (p : Option Int) (h : List Ob), i + d = l.length → (∀ (hi : 0 < i) (hi' : i - 1 < l.length), p = some l[i - 1].hi ∧ -1048576 ≤ l[i - 1].hi ∧ l[i - 1].hi ≤ 1048576) → (i = 0 → p = none) →
    ∃ fr' h', evw C y0 i_spans_Right_l0 [(0, spsV l), (5, spsV l), (6, .int .i64 l.length), (7, .int .i64 i)] h =
      some (if spR p (l.drop i) = true then (.ext 0, fr', h') else (.ret, [(2, .bool false)], h')) := by
  intro d
  induction d with
  | zero =>
    intro i p h hi hp h0
    have : i = l.length := by omega
    subst this
    rw [r_spans_Right_0, List.drop_length]
    refine ⟨[(0, spsV l), (5, spsV l), (6, .int .i64 l.length), (7, .int .i64 l.length), (8, .bool false)], h, ?_⟩
    simp [b_spans_Right_0, spR, spsV]
  | succ d ih =>
    intro i p h hi hp h0
    have hlt : i < l.length := by omega
    have hw := wrap_succ hlt (by omega)
    rw [r_spans_Right_0, List.drop_eq_getElem_cons hlt]
    simp only [spR]
    by_cases c1 : l[i].hi < l[i].lo
    · have c1' : ¬ (l[i].lo ≤ l[i].hi) := by omega
      exact ⟨[], h ++ [.row 2 [spV l[i]]], by simp [b_spans_Right_0, spsV, spV, hlt, c1, c1']⟩
    have c1' : l[i].lo ≤ l[i].hi := by omega
    by_cases c2 : l[i].lo < -1048576
    · have c2' : ¬ (-1048576 ≤ l[i].lo) := by omega
      exact ⟨[], h ++ [.row 2 [spV l[i]]], by simp [b_spans_Right_0, spsV, spV, hlt, c1, c1', c2, c2']⟩
    have c2' : -1048576 ≤ l[i].lo := by omega
    by_cases c3 : 1048576 < l[i].hi
    · have c3' : ¬ (l[i].hi ≤ 1048576) := by omega
      exact ⟨[], h ++ [.row 2 [spV l[i]]], by simp [b_spans_Right_0, spsV, spV, hlt, c1, c1', c2, c2', c3, c3']⟩
    have c3' : l[i].hi ≤ 1048576 := by omega
    obtain ⟨fr', h', ih⟩ := ih (i + 1) (some l[i].hi) (h ++ [.row 2 [spV l[i]]]) (by omega) (fun _ _ => ⟨by simp, by simp; omega, by simpa using c3'⟩) (by omega)
    simp only [Int.natCast_add, Int.cast_ofNat_Int, spsV, spV] at ih
    by_cases c4 : 0 < i
    · have hlt' : i - 1 < l.length := by omega
      obtain ⟨hp1, hp2, hp3⟩ := hp c4 hlt'
      subst hp1
      have w1 : IntKind.i64.wrap (l[i - 1].hi + 1) = l[i - 1].hi + 1 := wrap64 (by omega) (by omega)
      have w2 : IntKind.i64.wrap ((i : Int) - 1) = ((i - 1 : Nat) : Int) := by rw [wrap64 (by omega) (by omega)]; omega
      by_cases c5 : l[i].lo ≤ l[i - 1].hi + 1
      · have c5' : ¬ (l[i - 1].hi + 1 < l[i].lo) := by omega
        exact ⟨[], h ++ [.row 2 [spV l[i]]], by simp [b_spans_Right_0, spsV, spV, hlt, c1, c1', c2, c2', c3, c3', c4, w1, w2, hlt', c5, c5']⟩
      · have c5' : l[i - 1].hi + 1 < l[i].lo := by omega
        refine ⟨fr', h', ?_⟩
        simp only [c1', c2', c3', c5', decide_true, Bool.true_and, ← ih]
        simp [b_spans_Right_0, spsV, spV, hlt, c1, c1', c2, c2', c3, c3', c4, w1, w2, hlt', c5, hw]
    · have hi0 : i = 0 := by omega
      have hp0 := h0 hi0
      subst hp0
      refine ⟨fr', h', ?_⟩
      simp only [c1', c2', c3', decide_true, Bool.true_and, ← ih]
      simp [b_spans_Right_0, spsV, spV, hlt, c1, c1', c2, c2', c3, c3', c4, hw]
theorem spans_Right (l : List Sp) (hl : l.length ≤ 4611686018427387904) (h : List Ob) : acw C n_spans_Right [spsV l] h = some (.ret (.bool (spR none l)), h) := by
  obtain ⟨fr', h', hloop⟩ := spans_Right_loop l hl l.length 0 none [] (by omega) (fun h => absurd h (by omega)) (fun _ => rfl)
  refine acw_pure (a2 := [spsV l]) (h' := h') (v := .bool (spR none l)) (CT T_spans_Right) rfl rfl ?_ rfl (by simp)
  simp only [List.drop_zero, Int.cast_ofNat_Int] at hloop
  rcases Bool.eq_false_or_eq_true (spR none l) with hb | hb
  · simp only [hb, if_true, spsV] at hloop
    simp [runW_fin, F_spans_Right, i_spans_Right, hb, hloop, spsV]
  · simp only [hb, Bool.false_eq_true, if_false, spsV] at hloop
    simp [runW_fin, F_spans_Right, i_spans_Right, hb, hloop, spsV]
end Go.RR.M
set_option linter.unusedVariables false
set_option linter.unusedSimpArgs false
set_option maxRecDepth 100000
namespace Go.RR
def spS : List Sp → Int
  | [] => 0
  | s :: r => (s.hi - s.lo + 1) + spS r
theorem spR_all : ∀ {l : List Sp} {p : Option Int}, spR p l = true → ∀ s ∈ l, s.lo ≤ s.hi ∧ -1048576 ≤ s.lo ∧ s.hi ≤ 1048576
  | [], _, _ => by simp
  | s :: r, p, h => by
    simp only [spR, Bool.and_eq_true, decide_eq_true_eq] at h
    intro x hx
    rcases List.mem_cons.1 hx with rfl | hx
    · exact ⟨h.1.1.1.1, h.1.1.1.2, h.1.1.2⟩
    · exact spR_all h.2 x hx
theorem spS_nn : ∀ {l : List Sp}, (∀ s ∈ l, s.lo ≤ s.hi ∧ -1048576 ≤ s.lo ∧ s.hi ≤ 1048576) → 0 ≤ spS l
  | [], _ => by simp [spS]
  | s :: r, h => by
    have h1 := h s (by simp)
    have h2 := spS_nn (l := r) fun x hx => h x (by simp [hx])
    simp only [spS]
    omega
theorem spS_le : ∀ {l : List Sp} {q : Int}, spR (some q) l = true → spS l ≤ 1048576 - q ∨ l = []
  | [], _, _ => .inr rfl
  | s :: r, q, h => by
    simp only [spR, Bool.and_eq_true, decide_eq_true_eq] at h
    left
    simp only [spS]
    rcases spS_le h.2 with h2 | rfl
    · omega
    · simp only [spS]; omega
theorem spS_top {l : List Sp} (h : spR none l = true) : 0 ≤ spS l ∧ spS l ≤ 2097153 := by
  refine ⟨spS_nn (spR_all h), ?_⟩
  cases l with
  | nil => simp [spS]
  | cons s r =>
    simp only [spR, Bool.and_eq_true, decide_eq_true_eq] at h
    simp only [spS]
    rcases spS_le h.2 with h2 | rfl
    · omega
    · simp only [spS]; omega
def spN (l : List Sp) : Int := if spR none l = true then spS l else 0
theorem spN_top (l : List Sp) : 0 ≤ spN l ∧ spN l ≤ 2097153 := by
  unfold spN
  split
  · rename_i h; exact spS_top h
  · omega
end Go.RR
namespace Go.RR.M
open Go Go.RR
theorem spans_Size_loop (l : List Sp) (hl : l.length ≤ 4611686018427387904) (hb : ∀ s ∈ l, s.lo ≤ s.hi ∧ -1048576 ≤ s.lo ∧ s.hi ≤ 1048576) : ∀ (d i : Nat) (n : Int) (h : List Ob), i + d = l.length → 0 ≤ n → n + spS (l.drop i) ≤ 2097153 →
    ∃ fr' h', evw C y0 i_spans_Size_l0 [(3, .int .i64 n), (9, spsV l), (10, .int .i64 l.length), (11, .int .i64 i)] h = some (.ext 0, fr', h') ∧ get fr' 3 = .int .i64 (n + spS (l.drop i)) := by
  intro d
  induction d with
  | zero =>
    intro i n h hi h0 hn
    have : i = l.length := by omega
    subst this
    rw [r_spans_Size_0, List.drop_length]
    exact ⟨[(3, .int .i64 n), (9, spsV l), (10, .int .i64 l.length), (11, .int .i64 l.length), (12, .bool false)], h, by simp [b_spans_Size_0, spsV], by simp [spS]⟩
  | succ d ih =>
    intro i n h hi h0 hn
    have hlt : i < l.length := by omega
    have hw := wrap_succ hlt (by omega)
    have hs := hb _ (List.getElem_mem hlt)
    have hnn := spS_nn (l := l.drop (i + 1)) fun s hs => hb s (List.mem_of_mem_drop hs)
    rw [List.drop_eq_getElem_cons hlt] at hn ⊢
    simp only [spS] at hn ⊢
    obtain ⟨fr', h', ih1, ih2⟩ := ih (i + 1) (n + (l[i].hi - l[i].lo + 1)) (h ++ [.row 2 [spV l[i]]]) (by omega) (by omega) (by omega)
    refine ⟨fr', h', ?_, by rw [ih2]; congr 1; omega⟩
    rw [r_spans_Size_0, ← ih1]
    have w1 : IntKind.i64.wrap (l[i].hi - l[i].lo) = l[i].hi - l[i].lo := wrap64 (by omega) (by omega)
    have w2 : IntKind.i64.wrap (l[i].hi - l[i].lo + 1) = l[i].hi - l[i].lo + 1 := wrap64 (by omega) (by omega)
    have w3 : IntKind.i64.wrap (n + (l[i].hi - l[i].lo + 1)) = n + (l[i].hi - l[i].lo + 1) := wrap64 (by omega) (by omega)
    simp [b_spans_Size_0, spsV, spV, hlt, hw, w1, w2, w3]
theorem spans_Size (l : List Sp) (hl : l.length ≤ 4611686018427387904) (h : List Ob) : acw C n_spans_Size [spsV l] h = some (.ret (.int .i64 (spN l)), h) := by
  have hr := spans_Right l hl
  unfold spN
  rcases Bool.eq_false_or_eq_true (spR none l) with hb | hb
  · have ht := spS_top hb
    obtain ⟨fr', h', l1, l2⟩ := spans_Size_loop l hl (spR_all hb) l.length 0 0 [] (by omega) (by omega) (by simp; omega)
    simp only [List.drop_zero, Int.cast_ofNat_Int, Int.zero_add] at l1 l2
    refine acw_pure (h' := h') (v := .int .i64 (spS l)) (CT T_spans_Size) rfl rfl ?_ (by simp only [hb, if_true]; rfl) (by simp [hb])
    simp only [spsV] at l1 hr
    simp [runW_fin, F_spans_Size, i_spans_Size, hr, hb, l1, l2, spsV]
  · refine acw_pure (h' := []) (v := .int .i64 0) (CT T_spans_Size) rfl rfl ?_ (by simp only [hb]; rfl) (by simp [hb])
    simp only [spsV] at hr
    simp [runW_fin, F_spans_Size, i_spans_Size, hr, hb, spsV]
theorem ref03_Right_loop (l : List Sp) (hl : l.length ≤ 4611686018427387904) : ∀ (d i : Nat) (p : Option Int), i + d = l.length → (∀ (hi : 0 < i) (hi' : i - 1 < l.length), p = some l[i - 1].hi ∧ -1048576 ≤ l[i - 1].hi ∧ l[i - 1].hi ≤ 1048576) → (i = 0 → p = none) →
    evw C y0 i_ref03_Right_l0 [(0, spsV l), (3, .int .i64 i)] [] =
      some (if spR p (l.drop i) = true then (.ext 0, [(0, spsV l), (3, .int .i64 l.length), (7, .bool false)], []) else (.ret, [(2, .bool false)], [])) := by
  intro d
  induction d with
  | zero =>
    intro i p hi hp h0
    have : i = l.length := by omega
    subst this
    rw [r_ref03_Right_0, List.drop_length]
    simp [b_ref03_Right_0, spR, spsV]
  | succ d ih =>
    intro i p hi hp h0
    have hlt : i < l.length := by omega
    have hw := wrap_succ hlt (by omega)
    rw [r_ref03_Right_0, List.drop_eq_getElem_cons hlt]
    simp only [spR]
    by_cases c2 : l[i].lo < -1048576
    · have c2' : ¬ (-1048576 ≤ l[i].lo) := by omega
      simp [b_ref03_Right_0, spsV, spV, hlt, c2, c2']
    have c2' : -1048576 ≤ l[i].lo := by omega
    by_cases c3 : 1048576 < l[i].hi
    · have c3' : ¬ (l[i].hi ≤ 1048576) := by omega
      simp [b_ref03_Right_0, spsV, spV, hlt, c2, c2', c3, c3']
    have c3' : l[i].hi ≤ 1048576 := by omega
    by_cases c1 : l[i].hi < l[i].lo
    · have c1' : ¬ (l[i].lo ≤ l[i].hi) := by omega
      simp [b_ref03_Right_0, spsV, spV, hlt, c1, c1', c2, c2', c3, c3']
    have c1' : l[i].lo ≤ l[i].hi := by omega
    have ih := ih (i + 1) (some l[i].hi) (by omega) (fun _ _ => ⟨by simp, by simp; omega, by simpa using c3'⟩) (by omega)
    simp only [Int.natCast_add, Int.cast_ofNat_Int, spsV, spV] at ih
    by_cases c4 : 0 < i
    · have hlt' : i - 1 < l.length := by omega
      obtain ⟨hp1, hp2, hp3⟩ := hp c4 hlt'
      subst hp1
      have w1 : IntKind.i64.wrap (l[i].lo - l[i - 1].hi) = l[i].lo - l[i - 1].hi := wrap64 (by omega) (by omega)
      have w2 : IntKind.i64.wrap ((i : Int) - 1) = ((i - 1 : Nat) : Int) := by rw [wrap64 (by omega) (by omega)]; omega
      by_cases c5 : l[i].lo - l[i - 1].hi < 2
      · have c5' : ¬ (l[i - 1].hi + 1 < l[i].lo) := by omega
        simp [b_ref03_Right_0, spsV, spV, hlt, c1, c1', c2, c2', c3, c3', c4, w1, w2, hlt', c5, c5']
      · have c5' : l[i - 1].hi + 1 < l[i].lo := by omega
        simp only [c1', c2', c3', c5', decide_true, Bool.true_and, spsV, spV, ← ih]
        simp [b_ref03_Right_0, spsV, spV, hlt, c1, c1', c2, c2', c3, c3', c4, w1, w2, hlt', c5, hw]
    · have hi0 : i = 0 := by omega
      have hp0 := h0 hi0
      subst hp0
      simp only [c1', c2', c3', decide_true, Bool.true_and, spsV, spV, ← ih]
      simp [b_ref03_Right_0, spsV, spV, hlt, c1, c1', c2, c2', c3, c3', c4, hw]
theorem ref03_Right (l : List Sp) (hl : l.length ≤ 4611686018427387904) (h : List Ob) : acw C n_ref03_Right [spsV l] h = some (.ret (.bool (spR none l)), h) := by
  have hloop := ref03_Right_loop l hl l.length 0 none (by omega) (fun h => absurd h (by omega)) (fun _ => rfl)
  refine acw_pure (h' := []) (v := .bool (spR none l)) (CT T_ref03_Right) rfl rfl ?_ rfl (by simp)
  simp only [List.drop_zero, Int.cast_ofNat_Int] at hloop
  rcases Bool.eq_false_or_eq_true (spR none l) with hb | hb
  · simp only [hb, if_true, spsV] at hloop
    simp [runW_fin, F_ref03_Right, i_ref03_Right, hb, hloop, spsV]
  · simp only [hb, Bool.false_eq_true, if_false, spsV] at hloop
    simp [runW_fin, F_ref03_Right, i_ref03_Right, hb, hloop, spsV]
theorem ref03_Size_loop (l : List Sp) (hl : l.length ≤ 4611686018427387904) (hr : spR none l = true) (hb : ∀ s ∈ l, s.lo ≤ s.hi ∧ -1048576 ≤ s.lo ∧ s.hi ≤ 1048576) : ∀ (d i : Nat) (n : Int), i + d = l.length → 0 ≤ n → n + spS (l.drop i) ≤ 2097153 →
    ∃ fr', evw C y0 i_ref03_Size_l0 [(0, spsV l), (3, .int .i64 n), (4, .int .i64 i)] [] = some (.ext 0, fr', []) ∧ get fr' 3 = .int .i64 (n + spS (l.drop i)) := by
  intro d
  have hright := ref03_Right l hl
  rw [hr] at hright
  induction d with
  | zero =>
    intro i n hi h0 hn
    have : i = l.length := by omega
    subst this
    rw [r_ref03_Size_0, List.drop_length]
    exact ⟨[(0, spsV l), (3, .int .i64 n), (4, .int .i64 l.length), (12, .bool false)], by simp [b_ref03_Size_0, spsV], by simp [spS]⟩
  | succ d ih =>
    intro i n hi h0 hn
    have hlt : i < l.length := by omega
    have hw := wrap_succ hlt (by omega)
    have hs := hb _ (List.getElem_mem hlt)
    have hnn := spS_nn (l := l.drop (i + 1)) fun s hs => hb s (List.mem_of_mem_drop hs)
    rw [List.drop_eq_getElem_cons hlt] at hn ⊢
    simp only [spS] at hn ⊢
    obtain ⟨fr', ih1, ih2⟩ := ih (i + 1) (n + (l[i].hi - l[i].lo + 1)) (by omega) (by omega) (by omega)
    refine ⟨fr', ?_, by rw [ih2]; congr 1; omega⟩
    rw [r_ref03_Size_0, ← ih1]
    have w1 : IntKind.i64.wrap (n + l[i].hi) = n + l[i].hi := wrap64 (by omega) (by omega)
    have w2 : IntKind.i64.wrap (n + l[i].hi + 1) = n + l[i].hi + 1 := wrap64 (by omega) (by omega)
    have w3 : IntKind.i64.wrap (n + l[i].hi + 1 - l[i].lo) = n + (l[i].hi - l[i].lo + 1) := by rw [wrap64 (by omega) (by omega)]; omega
    simp only [spsV] at hright
    simp [b_ref03_Size_0, spsV, spV, hlt, hw, w1, w2, w3, hright]
theorem ref03_Size (l : List Sp) (hl : l.length ≤ 4611686018427387904) (h : List Ob) : acw C n_ref03_Size [spsV l] h = some (.ret (.int .i64 (spN l)), h) := by
  have hr := ref03_Right l hl
  unfold spN
  rcases Bool.eq_false_or_eq_true (spR none l) with hb | hb
  · have ht := spS_top hb
    obtain ⟨fr', l1, l2⟩ := ref03_Size_loop l hl hb (spR_all hb) l.length 0 0 (by omega) (by omega) (by simp; omega)
    simp only [List.drop_zero, Int.cast_ofNat_Int, Int.zero_add] at l1 l2
    refine acw_pure (h' := []) (v := .int .i64 (spS l)) (CT T_ref03_Size) rfl rfl ?_ (by simp only [hb, if_true]; rfl) (by simp [hb])
    simp only [spsV] at l1 hr
    simp [runW_fin, F_ref03_Size, i_ref03_Size, hr, hb, l1, l2, spsV]
  · refine acw_pure (h' := []) (v := .int .i64 0) (CT T_ref03_Size) rfl rfl ?_ (by simp only [hb]; rfl) (by simp [hb])
    simp only [spsV] at hr
    by_cases hn : 0 < l.length
    · have hl0 : evw C y0 i_ref03_Size_l0 [(0, .sl 2 (l.map spV)), (3, .int .i64 0), (4, .int .i64 0)] [] = some (.ext 0, [(0, .sl 2 (l.map spV)), (3, .int .i64 0), (4, .int .i64 0), (12, .bool false)], []) := by
        rw [r_ref03_Size_0]
        simp [b_ref03_Size_0, hr, hb, hn]
      simp [runW_fin, F_ref03_Size, i_ref03_Size, hl0, spsV]
    · have : l = [] := List.length_eq_zero_iff.1 (by omega)
      subst this
      simp [spR] at hb
theorem eq_sp {cr : CallR} {d s t : Nat} {fr : Fr} {h : List Ob} {a b : Sp} : (eqvs [(0, 1, Q.int), (1, 1, Q.int)] [.int .i64 a.lo, .int .i64 a.hi] [.int .i64 b.lo, .int .i64 b.hi]) = some (decide (a = b)) := by
  obtain ⟨a1, a2⟩ := a
  obtain ⟨b1, b2⟩ := b
  simp only [eqvs_cons, qAgg, part_one, ob_some, List.getElem?_cons_zero, List.getElem?_cons_succ, eqr_int, if_true, eqvs_nil, Sp.mk.injEq]
  have e1 : (a1 == b1) = decide (a1 = b1) := by by_cases h : a1 = b1 <;> simp [h]
  have e2 : (a2 == b2) = decide (a2 = b2) := by by_cases h : a2 = b2 <;> simp [h]
  rw [e1, e2]
  by_cases h1 : a1 = b1 <;> by_cases h2 : a2 = b2 <;> simp [h1, h2]
theorem ref03_Same_loop (l m : List Sp) (hlm : l.length = m.length) (hl : l.length ≤ 4611686018427387904) : ∀ (d i : Nat), i + d = l.length →
    evw C y0 i_ref03_Same_l0 [(0, spsV l), (1, spsV m), (5, .int .i64 i)] [] =
      some (if l.drop i = m.drop i then (.ext 0, [(0, spsV l), (1, spsV m), (5, .int .i64 l.length), (14, .bool false)], []) else (.ret, [(4, .bool false)], [])) := by
  intro d
  induction d with
  | zero =>
    intro i hi
    have : i = l.length := by omega
    subst this
    rw [r_ref03_Same_0, List.drop_length, hlm, List.drop_length]
    simp [b_ref03_Same_0, spsV, hlm]
  | succ d ih =>
    intro i hi
    have hlt : i < l.length := by omega
    have hlt' : i < m.length := by omega
    have hw := wrap_succ hlt (by omega)
    have ih := ih (i + 1) (by omega)
    simp only [Int.natCast_add, Int.cast_ofNat_Int, spsV] at ih
    have he := @eq_sp (crw C y0) 0 0 0 [] [] l[i] m[i]
    rw [r_ref03_Same_0, List.drop_eq_getElem_cons hlt, List.drop_eq_getElem_cons hlt']
    by_cases hab : l[i] = m[i]
    · simp only [hab, List.cons.injEq, true_and, spsV, ← ih]
      simp only [hab, decide_true] at he
      simp [b_ref03_Same_0, spsV, spV, hlt, hlt', he, hw, hab]
    · simp only [hab, decide_false] at he
      simp only [List.cons.injEq, hab, false_and, if_false]
      simp [b_ref03_Same_0, spsV, spV, hlt, hlt', he]
theorem ref03_Same (l m : List Sp) (hl : l.length ≤ 4611686018427387904) (h : List Ob) : acw C n_ref03_Same [spsV l, spsV m] h = some (.ret (.bool (decide (l = m))), h) := by
  refine acw_pure (h' := []) (v := .bool (decide (l = m))) (CT T_ref03_Same) rfl rfl ?_ rfl (by simp)
  by_cases hlm : l.length = m.length
  · have hloop := ref03_Same_loop l m hlm hl l.length 0 (by omega)
    simp only [List.drop_zero, Int.cast_ofNat_Int] at hloop
    by_cases hb : l = m
    · simp only [hb, if_true, spsV] at hloop
      simp [runW_fin, F_ref03_Same, i_ref03_Same, hb, hloop, spsV]
    · simp only [hb, if_false, spsV] at hloop
      simp [runW_fin, F_ref03_Same, i_ref03_Same, hb, hloop, spsV, hlm]
  · have h2 : ¬ ((l.length : Int) = m.length) := by omega
    have h3 : ((l.length : Int) != m.length) = true := by simpa using h2
    have h4 : ¬ (l = m) := fun e => hlm (by rw [e])
    simp [runW_fin, F_ref03_Same, i_ref03_Same, h2, h3, h4, spsV]
end Go.RR.M
set_option linter.unusedVariables false
set_option linter.unusedSimpArgs false
set_option maxRecDepth 100000
set_option maxHeartbeats 4000000
namespace Go.RR
/-- a span behind others -/
def putS (l : List Sp) (s : Sp) : List Sp := match l.getLast? with
  | some t => if s.lo ≤ t.hi + 1 then l.dropLast ++ [⟨t.lo, max t.hi s.hi⟩] else l ++ [s]
  | none => [s]
theorem putS_nil (s : Sp) : putS [] s = [s] := rfl
theorem putS_end (pre : List Sp) (t s : Sp) : putS (pre ++ [t]) s = if s.lo ≤ t.hi + 1 then pre ++ [⟨t.lo, max t.hi s.hi⟩] else pre ++ [t] ++ [s] := by
  unfold putS
  rw [List.getLast?_append]
  simp
theorem max_ite (a b : Int) : (if a < b then b else a) = max a b := by omega
end Go.RR
namespace Go.RR.M
open Go Go.RR
theorem put_nil (s : Sp) (h : List Ob) : acw C n_spans_put [.nsl 2, spV s] h = some (.ret (.own (h.length + 1) 0 1 1), h ++ [.row 2 [spV s], .row 2 [spV s]]) := by
  rw [acw_hm (CT T_spans_put) rfl]
  have k4 : bsfL (.agg [.int .i64 0, .int .i64 0]) [spV s] = some (.sl 2 [spV s]) := rfl
  have k5 : ∀ h nid, appV nid h 2 16 (.nsl 2) (.sl 2 [spV s]) = some (.own nid 0 1 1, some (nid, .row 2 [spV s])) := fun h nid => appV_nsl rfl (by simp) rfl (by omega) (by omega)
  have k6 : wr (h ++ [.row 2 [spV s]]) (some (h.length + 1, .row 2 [spV s])) = h ++ [.row 2 [spV s], .row 2 [spV s]] := by
    simp [wr]
  simp only [spV] at k4 k5 k6 ⊢
  simp [runW_fin, F_spans_put, i_spans_put, k4, k5, k6]
theorem put_own (pre : List Sp) (t s : Sp) (id n : Nat) (h : List Ob) (hn : n = pre.length + 1) (hl : pre.length ≤ 1000000) (e : h[id]? = some (.row 2 (pre.map spV ++ [spV t]))) (ht : -1099511627776 ≤ t.hi ∧ t.hi ≤ 1099511627776) :
    ∃ m h', acw C n_spans_put [.own id 0 n n, spV s] h = some (.ret (.own id 0 m m), h') ∧ m = (putS (pre ++ [t]) s).length ∧ h'[id]? = some (.row 2 ((putS (pre ++ [t]) s).map spV)) ∧ ∀ j, j < h.length → j ≠ id → h'[j]? = h[j]? := by
  rw [acw_hm (CT T_spans_put) rfl]
  have hid := (List.getElem?_eq_some_iff.1 e).1
  have e' : (h ++ [Ob.row 2 [spV s]])[id]? = some (.row 2 (pre.map spV ++ [spV t])) := get_some e
  have hw1 : IntKind.i64.wrap (pre.length : Int) = pre.length := wrap64 (by omega) (by omega)
  have hp2 : (pre.length : Int) < pre.length + 1 := by omega
  have hw2 : IntKind.i64.wrap (t.hi + 1) = t.hi + 1 := wrap64 (by omega) (by omega)
  have hp : (0 : Int) < pre.length + 1 := by omega
  have hg : (pre.map spV ++ [spV t])[pre.length]? = some (spV t) := by simp
  subst hn
  rw [putS_end]
  simp only [spV] at e' hg ⊢
  by_cases c : s.lo ≤ t.hi + 1
  · rw [if_pos c]
    refine ⟨pre.length + 1, (h ++ [Ob.row 2 [spV s]]).set id (.row 2 (pre.map spV ++ [spV ⟨t.lo, max t.hi s.hi⟩])), ?_, by simp, ?_, fun j hj hne => by rw [List.getElem?_set_ne (Ne.symm hne), get_lt hj]⟩
    · have k6 := wr_lt (h := h ++ [Ob.row 2 [spV s]]) (i := id) (o := .row 2 (pre.map spV ++ [spV ⟨t.lo, max t.hi s.hi⟩])) (by simp; omega)
      simp only [spV] at k6
      simp [runW_fin, F_spans_put, i_spans_put, e', hg, hw1, hw2, hp, hp2, c, max_ite, k6]
    · rw [List.getElem?_set_self (by simp; omega)]
      simp
  · rw [if_neg c]
    have k4 : bsfL (.agg [.int .i64 0, .int .i64 0]) [spV s] = some (.sl 2 [spV s]) := rfl
    refine ⟨pre.length + 1 + 1, (h ++ [Ob.row 2 [spV s]]).set id (.row 2 (pre.map spV ++ [spV t, spV s])), ?_, by simp, ?_, fun j hj hne => by rw [List.getElem?_set_ne (Ne.symm hne), get_lt hj]⟩
    · have k5 : ∀ nid, appV nid (h ++ [.row 2 [spV s]]) 2 16 (.own id 0 (pre.length + 1) (pre.length + 1)) (.sl 2 [spV s]) = some (.own id 0 (pre.length + 1 + 1) (pre.length + 1 + 1), some (id, .row 2 (pre.map spV ++ [spV t, spV s]))) := fun nid => (by have := appV_own (nid := nid) (b := 16) e' (m := pre.length + 1 + 1) (n := pre.length + 1) (by simp) (y := .sl 2 [spV s]) rfl (by simp) (by simp) (by omega) (by omega); simpa using this)
      have k6 := wr_lt (h := h ++ [Ob.row 2 [spV s]]) (i := id) (o := .row 2 (pre.map spV ++ [spV t, spV s])) (by simp; omega)
      simp only [spV] at k4 k5 k6
      simp [runW_fin, F_spans_put, i_spans_put, e', hg, hw1, hw2, hp, hp2, c, k4, k5, k6]
    · rw [List.getElem?_set_self (by simp; omega)]
      simp
/-- a list that grows by spans -/
def AccP (h : List Ob) (v : V) (l : List Sp) : Prop := (v = .nsl 2 ∧ l = []) ∨ ∃ id, l ≠ [] ∧ v = .own id 0 l.length l.length ∧ h[id]? = some (.row 2 (l.map spV))
theorem AccP.acc {h : List Ob} {v : V} {l : List Sp} (a : AccP h v l) : Acc h v 2 (l.map spV) := by
  rcases a with ⟨rfl, rfl⟩ | ⟨id, h1, rfl, e⟩
  · exact .inl ⟨rfl, rfl⟩
  · exact .inr ⟨id, by simp, e⟩
theorem AccP.frz {h : List Ob} {v : V} {l : List Sp} (a : AccP h v l) : frz h fdepth v = some (spsV l) :=
  a.acc.toB.frz 11 (mapO_id fun x hx => by obtain ⟨s, -, rfl⟩ := List.mem_map.1 hx; exact spV_fz s h 7)
theorem put (l : List Sp) (s : Sp) (v : V) (h : List Ob) (hl : l.length ≤ 1000000) (hb : ∀ t ∈ l, -1099511627776 ≤ t.hi ∧ t.hi ≤ 1099511627776) (a : AccP h v l) :
    ∃ v' h', acw C n_spans_put [v, spV s] h = some (.ret v', h') ∧ AccP h' v' (putS l s) := by
  rcases a with ⟨rfl, rfl⟩ | ⟨id, h1, rfl, e⟩
  · exact ⟨_, _, put_nil s h, .inr ⟨h.length + 1, by simp [putS_nil], by simp [putS_nil], by simp [putS_nil]⟩⟩
  · obtain ⟨pre, t, rfl⟩ : ∃ pre t, l = pre ++ [t] := ⟨l.dropLast, l.getLast h1, (List.dropLast_concat_getLast h1).symm⟩
    obtain ⟨m, h', k1, rfl, k3, -⟩ := put_own pre t s id (pre ++ [t]).length h (by simp) (by simp at hl; omega) (by simpa using e) (hb t (by simp))
    exact ⟨_, _, k1, .inr ⟨id, by rw [putS_end]; split <;> simp, rfl, k3⟩⟩
def okI (n : Int) : Bool := decide (-1048576 ≤ n) && decide (n ≤ 1048576)
def ofL : List Sp → List Int → Option (List Sp)
  | acc, [] => some acc
  | acc, v :: r => if okI v = true then ofL (putS acc ⟨v, v⟩) r else none
theorem putS_hi {l : List Sp} {s : Sp} {b : Int} (h : ∀ t ∈ l, -b ≤ t.hi ∧ t.hi ≤ b) (hs : -b ≤ s.hi ∧ s.hi ≤ b) : ∀ t ∈ putS l s, -b ≤ t.hi ∧ t.hi ≤ b := by
  by_cases e : l = []
  · subst e
    simp [putS_nil, hs]
  · obtain ⟨pre, t, rfl⟩ : ∃ pre t, l = pre ++ [t] := ⟨l.dropLast, l.getLast e, (List.dropLast_concat_getLast e).symm⟩
    have ht := h t (by simp)
    rw [putS_end]
    intro x hx
    split at hx
    · rcases List.mem_append.1 hx with hx | hx
      · exact h x (by simp [hx])
      · simp only [List.mem_singleton] at hx
        subst hx
        simp only
        omega
    · rcases List.mem_append.1 hx with hx | hx
      · exact h x hx
      · simp only [List.mem_singleton] at hx
        subst hx
        exact hs
theorem putS_len (l : List Sp) (s : Sp) : (putS l s).length ≤ l.length + 1 := by
  by_cases e : l = []
  · subst e
    simp [putS_nil]
  · obtain ⟨pre, t, rfl⟩ : ∃ pre t, l = pre ++ [t] := ⟨l.dropLast, l.getLast e, (List.dropLast_concat_getLast e).symm⟩
    rw [putS_end]
    split <;> simp
theorem of_loop (l : List Int) (hl : l.length ≤ 1000000) : ∀ (d i : Nat) (acc : List Sp) (v : V) (h : List Ob), i + d = l.length → acc.length ≤ i → (∀ t ∈ acc, -1048576 ≤ t.hi ∧ t.hi ≤ 1048576) → AccP h v acc →
    ∃ h', match ofL acc (l.drop i) with
      | some r => ∃ v', evw C y0 i_spans_Of_l0 [(4, v), (9, intsV l), (10, iv l.length), (11, iv i)] h = some (.ext 0, [(4, v'), (9, intsV l), (10, iv l.length), (11, iv l.length), (12, .bool false)], h') ∧ AccP h' v' r
      | none => evw C y0 i_spans_Of_l0 [(4, v), (9, intsV l), (10, iv l.length), (11, iv i)] h = some (.ret, [(2, .nsl 2), (3, iv 1)], h')
  | 0, i, acc, v, h, e, ha, hb, hA => by
    obtain rfl : i = l.length := by omega
    refine ⟨h, ?_⟩
    rw [List.drop_length]
    refine ⟨v, ?_, hA⟩
    rw [r_spans_Of_0]
    simp [b_spans_Of_0]
  | d + 1, i, acc, v, h, e, ha, hb, hA => by
    have hlt : i < l.length := by omega
    have h2 : (i : Int) < l.length := by omega
    have h3 : l[i]? = some l[i] := by simp [hlt]
    have hw := wrap_succ (i := i) (n := l.length) hlt (by omega)
    rw [List.drop_eq_getElem_cons hlt]
    by_cases c1 : l[i] < -1048576
    · have c : okI l[i] = false := by simp [okI]; omega
      simp only [ofL, c, Bool.false_eq_true, if_false]
      refine ⟨h, ?_⟩
      rw [r_spans_Of_0]
      simp [b_spans_Of_0, h2, h3, c1]
    by_cases c2 : 1048576 < l[i]
    · have c : okI l[i] = false := by simp [okI]; omega
      simp only [ofL, c, Bool.false_eq_true, if_false]
      refine ⟨h, ?_⟩
      rw [r_spans_Of_0]
      simp [b_spans_Of_0, h2, h3, c1, c2]
    have c : okI l[i] = true := by simp [okI]; omega
    simp only [ofL, c, if_true]
    obtain ⟨v', h1, k1, k2⟩ := put acc ⟨l[i], l[i]⟩ v h (by omega) (fun t ht => by have := hb t ht; omega) hA
    obtain ⟨h', ih⟩ := of_loop l hl d (i + 1) (putS acc ⟨l[i], l[i]⟩) v' h1 (by omega) (by have := putS_len acc ⟨l[i], l[i]⟩; omega) (putS_hi hb (by simp; omega)) k2
    refine ⟨h', ?_⟩
    simp only [Int.natCast_add, Int.cast_ofNat_Int] at ih
    simp only [spV] at k1
    cases hr : ofL (putS acc ⟨l[i], l[i]⟩) (l.drop (i + 1)) with
    | some r =>
      rw [hr] at ih
      obtain ⟨v2, ih, a2⟩ := ih
      refine ⟨v2, ?_, a2⟩
      rw [r_spans_Of_0, ← ih]
      simp [b_spans_Of_0, h2, h3, c1, c2, k1, hw]
    | none =>
      rw [hr] at ih
      simp only at ih ⊢
      rw [r_spans_Of_0, ← ih]
      simp [b_spans_Of_0, h2, h3, c1, c2, k1, hw]
/-- the spans of numbers, or why there are none -/
def ofR (l : List Int) : List Sp × Int := match ofL [] (sortI l) with
  | some r => (r, 0)
  | none => ([], 1)
theorem spans_Of (l : List Int) (hl : l.length ≤ 1000000) (h : List Ob) : acw C n_spans_Of [intsV l] h = some (.ret (.tup [spsV (ofR l).1, iv (ofR l).2]), h) := by
  have hs := sortI_length l
  obtain ⟨h', ih⟩ := of_loop (sortI l) (by omega) l.length 0 [] (.nsl 2) [] (by omega) (Nat.le_refl _) (by simp) (.inl ⟨rfl, rfl⟩)
  have k1 := values l
  have k2 := sorted l (by omega)
  simp only [List.drop_zero, Int.cast_ofNat_Int] at ih
  unfold ofR
  cases hr : ofL [] (sortI l) with
  | some r =>
    rw [hr] at ih
    obtain ⟨v', ih, a2⟩ := ih
    refine acw_pure (a2 := [intsV l]) (h' := h') (v := .tup [v', iv 0]) (CT T_spans_Of) rfl rfl ?_ ?_ (by simp)
    · simp [runW_fin, F_spans_Of, i_spans_Of, k1, k2, ih]
    · show (mapO (RR.frz h' 11) [v', iv 0]).map V.tup = _
      have := a2.acc.toB.frz 10 (mapO_id fun x hx => by obtain ⟨s, -, rfl⟩ := List.mem_map.1 hx; exact spV_fz s h' 6)
      simp only [mapO, this, show ∀ n : Int, RR.frz h' 11 (iv n) = some (iv n) from fun _ => rfl, Option.map_some]
  | none =>
    rw [hr] at ih
    simp only at ih
    refine acw_pure (a2 := [intsV l]) (h' := h') (v := .tup [.nsl 2, iv 1]) (CT T_spans_Of) rfl rfl ?_ rfl (by simp)
    simp [runW_fin, F_spans_Of, i_spans_Of, k1, k2, ih]
theorem ofL_len : ∀ (s : List Int) (out r : List Sp), ofL out s = some r → r.length ≤ out.length + s.length
  | [], out, r, h => by cases h; simp
  | x :: s, out, r, h => by
    simp only [ofL] at h
    split at h <;> try contradiction
    have := ofL_len s _ r h
    have h2 := putS_len out ⟨x, x⟩
    simp only [List.length_cons]
    omega
theorem ofR_len (l : List Int) : (ofR l).1.length ≤ l.length := by
  unfold ofR
  split
  · rename_i r e
    have := ofL_len _ _ _ e
    rw [sortI_length] at this
    simpa using this
  · simp
end Go.RR.M
set_option linter.unusedVariables false
set_option linter.unusedSimpArgs false
set_option maxRecDepth 100000
set_option maxHeartbeats 4000000
namespace Go.RR.M
open Go Go.RR
def bst (low : Int) (b : Int) (l : List Int) : Int := l.foldl (fun b v => if low < v ∧ v < b then v else b) b
theorem bst_cons (low b v : Int) (l : List Int) : bst low b (v :: l) = bst low (if low < v ∧ v < b then v else b) l := rfl
theorem bst_spec (low : Int) : ∀ (l : List Int) (b : Int), bst low b l ≤ b ∧ (∀ v ∈ l, low < v → bst low b l ≤ v) ∧ (bst low b l = b ∨ bst low b l ∈ l ∧ low < bst low b l)
  | [], b => ⟨Int.le_refl _, by simp, .inl rfl⟩
  | v :: l, b => by
    rw [bst_cons]
    by_cases c : low < v ∧ v < b
    · rw [if_pos c]
      obtain ⟨h1, h2, h3⟩ := bst_spec low l v
      refine ⟨by omega, fun w hw hl => ?_, ?_⟩
      · rcases List.mem_cons.1 hw with rfl | hw
        · exact h1
        · exact h2 w hw hl
      · rcases h3 with h3 | h3
        · exact .inr ⟨by rw [h3]; simp, by rw [h3]; exact c.1⟩
        · exact .inr ⟨List.mem_cons_of_mem _ h3.1, h3.2⟩
    · rw [if_neg c]
      obtain ⟨h1, h2, h3⟩ := bst_spec low l b
      refine ⟨h1, fun w hw hl => ?_, ?_⟩
      · rcases List.mem_cons.1 hw with rfl | hw
        · omega
        · exact h2 w hw hl
      · rcases h3 with h3 | h3
        · exact .inl h3
        · exact .inr ⟨List.mem_cons_of_mem _ h3.1, h3.2⟩
def outR (out : List Sp) (b : Int) : List Sp := match out.getLast? with
  | some t => if t.hi + 1 = b then out.dropLast ++ [⟨t.lo, b⟩] else out ++ [⟨b, b⟩]
  | none => [⟨b, b⟩]
theorem outR_nil (b : Int) : outR [] b = [⟨b, b⟩] := rfl
theorem outR_end (pre : List Sp) (t : Sp) (b : Int) : outR (pre ++ [t]) b = if t.hi + 1 = b then pre ++ [⟨t.lo, b⟩] else pre ++ [t] ++ [⟨b, b⟩] := by
  unfold outR
  rw [List.getLast?_append]
  simp
theorem filter_gt_lt (x low : Int) (h : low < x) (s : List Int) : (s.filter fun v => decide (low < v)).filter (fun v => decide (x < v)) = s.filter fun v => decide (x < v) := by
  rw [List.filter_filter]
  congr 1
  funext v
  by_cases c : x < v
  · simp [c]; omega
  · simp [c]
def refS : Nat → List Int → List Sp → List Sp
  | 0, _, out => out
  | _ + 1, [], out => out
  | n + 1, x :: r, out => refS n (r.filter fun v => decide (x < v)) (outR out x)
theorem putS_outR {out : List Sp} {x : Int} (h : ∀ t ∈ out, t.hi < x) : putS out ⟨x, x⟩ = outR out x := by
  by_cases e : out = []
  · subst e; rfl
  · obtain ⟨pre, t, rfl⟩ : ∃ pre t, out = pre ++ [t] := ⟨out.dropLast, out.getLast e, (List.dropLast_concat_getLast e).symm⟩
    have := h t (by simp)
    rw [putS_end, outR_end]
    by_cases c : t.hi + 1 = x
    · rw [if_pos c, if_pos (by first | omega | (simp only; omega))]
      simp only [show max t.hi x = x by omega]
    · rw [if_neg c, if_neg (by first | omega | (simp only; omega))]
theorem outR_hi {out : List Sp} {x b : Int} (h : ∀ t ∈ out, t.hi < x) (hb : x < b) : ∀ t ∈ outR out x, t.hi < b := by
  by_cases e : out = []
  · subst e; simp [outR_nil, hb]
  · obtain ⟨pre, t, rfl⟩ : ∃ pre t, out = pre ++ [t] := ⟨out.dropLast, out.getLast e, (List.dropLast_concat_getLast e).symm⟩
    rw [outR_end]
    intro y hy
    split at hy
    · rcases List.mem_append.1 hy with hy | hy
      · have := h y (by simp [hy]); omega
      · simp only [List.mem_singleton] at hy; subst hy; exact hb
    · rcases List.mem_append.1 hy with hy | hy
      · have := h y hy; omega
      · simp only [List.mem_singleton] at hy; subst hy; exact hb
theorem putS_same {out : List Sp} {x : Int} (h : ∀ t ∈ out, t.hi < x) : putS (outR out x) ⟨x, x⟩ = outR out x := by
  by_cases e : out = []
  · subst e
    have := putS_end [] ⟨x, x⟩ ⟨x, x⟩
    simp only [List.nil_append] at this
    rw [outR_nil, this, if_pos (by first | omega | (simp only; omega))]
    simp only [Int.max_def, Int.le_refl, if_true]
  · obtain ⟨pre, t, rfl⟩ : ∃ pre t, out = pre ++ [t] := ⟨out.dropLast, out.getLast e, (List.dropLast_concat_getLast e).symm⟩
    rw [outR_end]
    split
    · rw [putS_end, if_pos (by first | omega | (simp only; omega))]
      simp
    · rw [putS_end, if_pos (by first | omega | (simp only; omega))]
      simp
theorem sorted_cons {x : Int} {r : List Int} (h : (x :: r).Pairwise (· ≤ ·)) : r.Pairwise (· ≤ ·) ∧ ∀ v ∈ r, x ≤ v := ⟨(List.pairwise_cons.1 h).2, (List.pairwise_cons.1 h).1⟩
theorem ofL_dup {out : List Sp} {x : Int} (h : ∀ t ∈ out, t.hi < x) (hx : okI x = true) : ∀ (r : List Int), r.Pairwise (· ≤ ·) → (∀ v ∈ r, x ≤ v) → ofL (outR out x) r = ofL (outR out x) (r.filter fun v => decide (x < v))
  | [], _, _ => rfl
  | v :: r, hs, hv => by
    have h1 := sorted_cons hs
    by_cases c : x < v
    · have : (v :: r).filter (fun w => decide (x < w)) = v :: r := List.filter_eq_self.2 fun w hw => by
        rcases List.mem_cons.1 hw with rfl | hw
        · simp [c]
        · have := h1.2 w hw; simp; omega
      rw [this]
    · have hvx : v = x := by have := hv v (by simp); omega
      subst hvx
      rw [List.filter_cons_of_neg (by simp)]
      simp only [ofL, hx, if_true]
      rw [putS_same h]
      exact ofL_dup h hx r h1.1 h1.2
theorem ofL_refS : ∀ (n : Nat) (s : List Int) (out : List Sp), s.length ≤ n → s.Pairwise (· ≤ ·) → (∀ v ∈ s, okI v = true) → (∀ t ∈ out, ∀ v ∈ s, t.hi < v) → ofL out s = some (refS n s out)
  | 0, s, out, hl, _, _, _ => by
    have : s = [] := List.length_eq_zero_iff.1 (by omega)
    subst this; rfl
  | n + 1, [], out, _, _, _, _ => rfl
  | n + 1, x :: r, out, hl, hs, ho, hb => by
    have h1 := sorted_cons hs
    have hx := ho x (by simp)
    have hbx : ∀ t ∈ out, t.hi < x := fun t ht => hb t ht x (by simp)
    simp only [ofL, hx, if_true, refS]
    rw [putS_outR hbx, ofL_dup hbx hx r h1.1 h1.2]
    refine ofL_refS n _ _ ?_ (h1.1.filter _) (fun v hv => ho v (by simp [(List.mem_filter.1 hv).1])) fun t ht v hv => ?_
    · have := List.length_filter_le (fun v => decide (x < v)) r
      simp at hl; omega
    · exact outR_hi hbx (by simpa using (List.mem_filter.1 hv).2) t ht
theorem ofL_none : ∀ (s : List Int) (out : List Sp), (∃ v ∈ s, okI v = false) → ofL out s = none
  | [], _, h => by obtain ⟨v, hv, _⟩ := h; simp at hv
  | x :: r, out, h => by
    simp only [ofL]
    cases hx : okI x with
    | false => rfl
    | true =>
      simp only [if_true]
      obtain ⟨v, hv, h1⟩ := h
      rcases List.mem_cons.1 hv with rfl | hv
      · rw [hx] at h1; cases h1
      · exact ofL_none r _ ⟨v, hv, h1⟩
/-- the least that is more -/
theorem bst_sorted {l : List Int} {low : Int} (ho : ∀ v ∈ l, okI v = true) : bst low 2000000 l = match (sortI l).filter fun v => decide (low < v) with
    | [] => 2000000
    | x :: _ => x := by
  obtain ⟨h1, h2, h3⟩ := bst_spec low l 2000000
  have hm : ∀ v, v ∈ sortI l ↔ v ∈ l := fun v => (sortI_perm l).mem_iff
  have hs : ((sortI l).filter fun v => decide (low < v)).Pairwise (· ≤ ·) := (sortI_sorted l).filter _
  have hmem : ∀ v, v ∈ (sortI l).filter (fun v => decide (low < v)) ↔ v ∈ l ∧ low < v := fun v => by rw [List.mem_filter, hm]; simp
  cases e : (sortI l).filter fun v => decide (low < v) with
  | nil =>
    rcases h3 with h3 | h3
    · exact h3
    · have := (hmem _).2 h3
      rw [e] at this
      simp at this
  | cons x r =>
    simp only
    rw [e] at hs
    have hx := (hmem x).1 (by rw [e]; simp)
    have hox := ho x hx.1
    simp only [okI, Bool.and_eq_true, decide_eq_true_eq] at hox
    have h4 := h2 x hx.1 hx.2
    rcases h3 with h3 | h3
    · omega
    · have := (hmem _).2 h3
      rw [e] at this
      rcases List.mem_cons.1 this with h5 | h5
      · exact h5
      · have := (sorted_cons hs).2 _ h5
        omega
end Go.RR.M
set_option linter.unusedVariables false
set_option linter.unusedSimpArgs false
set_option maxRecDepth 100000
set_option maxHeartbeats 4000000
namespace Go.RR.M
open Go Go.RR
theorem rof_l0 (l : List Int) (hl : l.length ≤ 1000000) (v : V) (h : List Ob) : ∀ (d i : Nat), i + d = l.length →
    evw C y0 i_ref03_Of_l0 [(0, intsV l), (4, v), (5, iv (-2000000)), (6, iv i)] h =
      some (if (l.drop i).all okI = true then (.ext 0, [(0, intsV l), (4, v), (5, iv (-2000000)), (6, iv l.length), (14, .bool false)], h) else (.ret, [(2, .nsl 2), (3, iv 1)], h))
  | 0, i, e => by
    obtain rfl : i = l.length := by omega
    rw [List.drop_length, r_ref03_Of_0]
    simp [b_ref03_Of_0]
  | d + 1, i, e => by
    have hlt : i < l.length := by omega
    have h2 : (i : Int) < l.length := by omega
    have h3 : l[i]? = some l[i] := by simp [hlt]
    have hw := wrap_succ (i := i) (n := l.length) hlt (by omega)
    have ih := rof_l0 l hl v h d (i + 1) (by omega)
    simp only [Int.natCast_add, Int.cast_ofNat_Int] at ih
    rw [List.drop_eq_getElem_cons hlt, r_ref03_Of_0, List.all_cons]
    by_cases c1 : l[i] < -1048576
    · have c : okI l[i] = false := by simp [okI]; omega
      simp [b_ref03_Of_0, h2, h3, c1, c]
    by_cases c2 : 1048576 < l[i]
    · have c : okI l[i] = false := by simp [okI]; omega
      simp [b_ref03_Of_0, h2, h3, c1, c2, c]
    have c : okI l[i] = true := by simp [okI]; omega
    rw [c, Bool.true_and, ← ih]
    simp [b_ref03_Of_0, h2, h3, c1, c2, hw]
theorem rof_l1 (l : List Int) (hl : l.length ≤ 1000000) (low : Int) (v : V) (h : List Ob) : ∀ (d i : Nat) (b : Int), i + d = l.length →
    evw C y0 i_ref03_Of_l1 [(0, intsV l), (4, v), (5, iv low), (8, iv b), (9, iv i)] h =
      some (.ext 4, [(0, intsV l), (4, v), (5, iv low), (8, iv (bst low b (l.drop i))), (9, iv l.length), (33, .bool false)], h)
  | 0, i, b, e => by
    obtain rfl : i = l.length := by omega
    rw [List.drop_length, r_ref03_Of_1]
    simp [b_ref03_Of_1, bst]
  | d + 1, i, b, e => by
    have hlt : i < l.length := by omega
    have h2 : (i : Int) < l.length := by omega
    have h3 : l[i]? = some l[i] := by simp [hlt]
    have hw := wrap_succ (i := i) (n := l.length) hlt (by omega)
    rw [List.drop_eq_getElem_cons hlt, r_ref03_Of_1, bst_cons]
    by_cases c1 : low < l[i]
    · by_cases c2 : l[i] < b
      · have ih := rof_l1 l hl low v h d (i + 1) l[i] (by omega)
        simp only [Int.natCast_add, Int.cast_ofNat_Int] at ih
        rw [if_pos ⟨c1, c2⟩, ← ih]
        simp [b_ref03_Of_1, h2, h3, c1, c2, hw]
      · have ih := rof_l1 l hl low v h d (i + 1) b (by omega)
        simp only [Int.natCast_add, Int.cast_ofNat_Int] at ih
        rw [if_neg (fun c => c2 c.2), ← ih]
        simp [b_ref03_Of_1, h2, h3, c1, c2, hw]
    · have ih := rof_l1 l hl low v h d (i + 1) b (by omega)
      simp only [Int.natCast_add, Int.cast_ofNat_Int] at ih
      rw [if_neg (fun c => c1 c.1), ← ih]
      simp [b_ref03_Of_1, h2, h3, c1, hw]
/-- one more number: its list -/
theorem rof_step (l : List Int) (hl : l.length ≤ 1000000) (low b : Int) (out : List Sp) (ho : out.length ≤ 1000000) (hb : bst low 2000000 l = b) (hb2 : b < 2000000) (hr : ∀ t ∈ out, -1048576 ≤ t.hi ∧ t.hi ≤ 1048576) :
    evw C y0 i_ref03_Of_l2 [(0, intsV l), (4, .own 0 0 out.length out.length), (5, iv low), (7, .bool true)] [.row 2 (out.map spV)] =
      evw C y0 i_ref03_Of_l2 [(0, intsV l), (4, .own 0 0 (outR out b).length (outR out b).length), (5, iv b), (7, .bool true)] [.row 2 ((outR out b).map spV)] := by
  have h1 := rof_l1 l hl low (.own 0 0 out.length out.length) [.row 2 (out.map spV)] l.length 0 2000000 (by omega)
  rw [List.drop_zero, hb] at h1
  simp only [Int.cast_ofNat_Int] at h1
  have k4 : bsfL (.agg [.int .i64 0, .int .i64 0]) [spV ⟨b, b⟩] = some (.sl 2 [spV ⟨b, b⟩]) := rfl
  rw [r_ref03_Of_2]
  by_cases e : out = []
  · subst e
    have k5 : ∀ nid, appV nid [.row 2 []] 2 16 (.own 0 0 0 0) (.sl 2 [spV ⟨b, b⟩]) = some (.own 0 0 1 1, some (0, .row 2 [spV ⟨b, b⟩])) := fun nid => appV_own (xs := []) rfl rfl rfl (by simp) (by simp) (by omega) (by omega)
    simp only [spV, List.length_nil, List.map_nil] at k4 k5 h1
    simp [b_ref03_Of_2, h1, hb2, k4, k5, outR_nil]
  · obtain ⟨pre, t, rfl⟩ : ∃ pre t, out = pre ++ [t] := ⟨out.dropLast, out.getLast e, (List.dropLast_concat_getLast e).symm⟩
    have ht := hr t (by simp)
    have hpl : pre.length < 1000000 := by simp at ho; omega
    have hw1 : IntKind.i64.wrap (pre.length : Int) = pre.length := wrap64 (by omega) (by omega)
    have hw2 : IntKind.i64.wrap (t.hi + 1) = t.hi + 1 := wrap64 (by omega) (by omega)
    have hp : (0 : Int) < pre.length + 1 := by omega
    have hp2 : (pre.length : Int) < pre.length + 1 := by omega
    have hg : (pre.map spV ++ [spV t])[pre.length]? = some (spV t) := by simp
    rw [outR_end]
    simp only [spV, List.length_append, List.length_cons, List.length_nil, Nat.zero_add, List.map_append, List.map_cons, List.map_nil] at h1 hg k4
    by_cases c : t.hi + 1 = b
    · rw [if_pos c]
      subst c
      simp [b_ref03_Of_2, h1, hb2, hp, hp2, hw1, hw2, hg, ieq, ine]
    · rw [if_neg c]
      have k5 : ∀ nid, appV nid [.row 2 (pre.map spV ++ [.agg [.int .i64 t.lo, .int .i64 t.hi]])] 2 16 (.own 0 0 (pre.length + 1) (pre.length + 1)) (.sl 2 [.agg [.int .i64 b, .int .i64 b]]) = some (.own 0 0 (pre.length + 1 + 1) (pre.length + 1 + 1), some (0, .row 2 (pre.map spV ++ [.agg [.int .i64 t.lo, .int .i64 t.hi], .agg [.int .i64 b, .int .i64 b]]))) := fun nid => by
        have := appV_own (nid := nid) (h := [.row 2 (pre.map spV ++ [.agg [.int .i64 t.lo, .int .i64 t.hi]])]) (id := 0) (z := 2) (b := 16) (n := pre.length + 1) (m := pre.length + 1 + 1) (y := .sl 2 [.agg [.int .i64 b, .int .i64 b]]) rfl (by simp) rfl (by simp) (by simp) (by omega) (by omega)
        simpa using this
      simp [b_ref03_Of_2, h1, hb2, hp, hp2, hw1, hw2, hg, ieq, ine, c, k4, k5]
theorem rof_end (l : List Int) (hl : l.length ≤ 1000000) (low : Int) (out : List Sp) (ho : out.length ≤ 1000000) (hb : bst low 2000000 l = 2000000) :
    evw C y0 i_ref03_Of_l2 [(0, intsV l), (4, .own 0 0 out.length out.length), (5, iv low), (7, .bool true)] [.row 2 (out.map spV)] =
      some (.ext 2, [(0, intsV l), (4, .own 0 0 out.length out.length), (5, iv 2000000), (29, .bool false)], [.row 2 (out.map spV)]) := by
  have h1 := rof_l1 l hl low (.own 0 0 out.length out.length) [.row 2 (out.map spV)] l.length 0 2000000 (by omega)
  rw [List.drop_zero, hb] at h1
  simp only [Int.cast_ofNat_Int] at h1
  have h2 : evw C y0 i_ref03_Of_l2 [(0, intsV l), (4, .own 0 0 out.length out.length), (5, iv 2000000), (7, .bool false)] [.row 2 (out.map spV)] = some (.ext 2, [(0, intsV l), (4, .own 0 0 out.length out.length), (5, iv 2000000), (29, .bool false)], [.row 2 (out.map spV)]) := by
    rw [r_ref03_Of_2]
    simp [b_ref03_Of_2]
  rw [r_ref03_Of_2]
  simp [b_ref03_Of_2, h1]
  exact h2
theorem outR_len (out : List Sp) (b : Int) : (outR out b).length ≤ out.length + 1 := by
  by_cases e : out = []
  · subst e
    simp [outR_nil]
  · obtain ⟨pre, t, rfl⟩ : ∃ pre t, out = pre ++ [t] := ⟨out.dropLast, out.getLast e, (List.dropLast_concat_getLast e).symm⟩
    rw [outR_end]
    split <;> simp
theorem outR_bd {out : List Sp} {x : Int} (h : ∀ t ∈ out, -1048576 ≤ t.hi ∧ t.hi ≤ 1048576) (hx : -1048576 ≤ x ∧ x ≤ 1048576) : ∀ t ∈ outR out x, -1048576 ≤ t.hi ∧ t.hi ≤ 1048576 := by
  by_cases e : out = []
  · subst e; simp [outR_nil, hx]
  · obtain ⟨pre, t, rfl⟩ : ∃ pre t, out = pre ++ [t] := ⟨out.dropLast, out.getLast e, (List.dropLast_concat_getLast e).symm⟩
    rw [outR_end]
    intro y hy
    split at hy
    · rcases List.mem_append.1 hy with hy | hy
      · exact h y (by simp [hy])
      · simp only [List.mem_singleton] at hy; subst hy; exact hx
    · rcases List.mem_append.1 hy with hy | hy
      · exact h y hy
      · simp only [List.mem_singleton] at hy; subst hy; exact hx
theorem rof_l2 (l : List Int) (hl : l.length ≤ 1000000) (hok : ∀ v ∈ l, okI v = true) : ∀ (n : Nat) (low : Int) (out : List Sp) (r : List Int), ((sortI l).filter fun v => decide (low < v)) = r → r.length ≤ n → out.length + n ≤ 1000000 → (∀ t ∈ out, -1048576 ≤ t.hi ∧ t.hi ≤ 1048576) →
    evw C y0 i_ref03_Of_l2 [(0, intsV l), (4, .own 0 0 out.length out.length), (5, iv low), (7, .bool true)] [.row 2 (out.map spV)] =
      some (.ext 2, [(0, intsV l), (4, .own 0 0 (refS n r out).length (refS n r out).length), (5, iv 2000000), (29, .bool false)], [.row 2 ((refS n r out).map spV)])
  | 0, low, out, r, hr, hn, ho, hb => by
    have : r = [] := List.length_eq_zero_iff.1 (by omega)
    subst this
    have h1 := bst_sorted (low := low) hok
    rw [hr] at h1
    exact rof_end l hl low out (by omega) h1
  | n + 1, low, out, [], hr, hn, ho, hb => by
    have h1 := bst_sorted (low := low) hok
    rw [hr] at h1
    exact rof_end l hl low out (by omega) h1
  | n + 1, low, out, x :: r, hr, hn, ho, hb => by
    have h1 := bst_sorted (low := low) hok
    rw [hr] at h1
    simp only at h1
    have hx : x ∈ l ∧ low < x := by
      have : x ∈ (sortI l).filter fun v => decide (low < v) := by rw [hr]; simp
      rw [List.mem_filter, (sortI_perm l).mem_iff] at this
      simpa using this
    have hox := hok x hx.1
    simp only [okI, Bool.and_eq_true, decide_eq_true_eq] at hox
    rw [rof_step l hl low x out (by omega) h1 (by omega) hb]
    have hr2 : ((sortI l).filter fun v => decide (x < v)) = r.filter fun v => decide (x < v) := by
      rw [← filter_gt_lt x low hx.2, hr, List.filter_cons_of_neg (by simp)]
    have := List.length_filter_le (fun v => decide (x < v)) r
    have h2 := outR_len out x
    exact rof_l2 l hl hok n x (outR out x) _ hr2 (by simp at hn; omega) (by omega) (outR_bd hb hox)
theorem ref03_Of (l : List Int) (hl : l.length ≤ 500000) (h : List Ob) : acw C n_ref03_Of [intsV l] h = some (.ret (.tup [spsV (ofR l).1, iv (ofR l).2]), h) := by
  have h0 := rof_l0 l (by omega) (.own 0 0 0 0) [.row 2 []] l.length 0 (by omega)
  rw [List.drop_zero] at h0
  simp only [Int.cast_ofNat_Int] at h0
  cases c : l.all okI with
  | false =>
    rw [c] at h0
    simp only [Bool.false_eq_true, if_false] at h0
    have e : ofR l = ([], 1) := by
      unfold ofR
      rw [ofL_none (sortI l) [] (by
        obtain ⟨v, hv, h1⟩ := List.all_eq_false.1 c
        exact ⟨v, (sortI_perm l).mem_iff.2 hv, by simpa using h1⟩)]
    rw [e]
    refine acw_pure (a2 := [intsV l]) (h' := [.row 2 []]) (v := .tup [.nsl 2, iv 1]) (CT T_ref03_Of) rfl rfl ?_ rfl (by simp)
    simp [runW_fin, F_ref03_Of, i_ref03_Of, h0]
  | true =>
    rw [c] at h0
    simp only [if_true] at h0
    have hok : ∀ v ∈ l, okI v = true := List.all_eq_true.1 c
    have hoks : ∀ v ∈ sortI l, okI v = true := fun v hv => hok v ((sortI_perm l).mem_iff.1 hv)
    have hf : ((sortI l).filter fun v => decide ((-2000000 : Int) < v)) = sortI l := List.filter_eq_self.2 fun v hv => by
      have := hoks v hv
      simp only [okI, Bool.and_eq_true, decide_eq_true_eq] at this
      simp; omega
    have hs := sortI_length l
    have e : ofR l = (refS l.length (sortI l) [], 0) := by
      unfold ofR
      rw [ofL_refS l.length (sortI l) [] (by omega) (sortI_sorted l) hoks (by simp)]
    rw [e]
    have h2 := rof_l2 l (by omega) hok l.length (-2000000) [] (sortI l) hf (by omega) (by simp; omega) (by simp)
    obtain ⟨R, hR⟩ : ∃ R, R = refS l.length (sortI l) [] := ⟨_, rfl⟩
    rw [← hR] at h2 ⊢
    simp only [List.length_nil, List.map_nil] at h2
    refine acw_pure (a2 := [intsV l]) (h' := [.row 2 (R.map spV)]) (v := .tup [.own 0 0 R.length R.length, iv 0]) (CT T_ref03_Of) rfl rfl ?_ ?_ (by simp)
    · simp [runW_fin, F_ref03_Of, i_ref03_Of, h0, h2]
    · show (mapO (RR.frz _ 11) [.own 0 0 R.length R.length, iv 0]).map V.tup = _
      have a : AccB 0 [Ob.row 2 (R.map spV)] (.own 0 0 R.length R.length) 2 (R.map spV) := .own (Nat.zero_le _) (by simp) rfl
      have := a.frz 10 (mapO_id fun x hx => by obtain ⟨s, -, rfl⟩ := List.mem_map.1 hx; exact spV_fz s _ 6)
      simp only [mapO, this, show ∀ n : Int, RR.frz [Ob.row 2 (R.map spV)] 11 (iv n) = some (iv n) from fun _ => rfl, Option.map_some]
end Go.RR.M
set_option linter.unusedVariables false
set_option linter.unusedSimpArgs false
set_option maxRecDepth 100000
namespace Go.RR.M
open Go Go.RR
def plS (v : Int) : List Sp → Int → Int
  | [], _ => -1
  | s :: r, n => if v < s.lo then -1 else if v ≤ s.hi then n + v - s.lo else plS v r (n + (s.hi - s.lo + 1))
def atS : List Sp → Int → Int × Bool
  | [], _ => (0, false)
  | s :: r, k => if k < s.hi - s.lo + 1 then (s.lo + k, true) else atS r (k - (s.hi - s.lo + 1))
def inS (v : Int) (l : List Sp) : Bool := l.any fun s => decide (s.lo ≤ v) && decide (v ≤ s.hi)
def plR (v : Int) : List Sp → Int → Int
  | [], n => n
  | s :: r, n => plR v r (if s.hi < v then n + s.hi + 1 - s.lo else if s.lo ≤ v then n + v - s.lo else n)
/-- numbers, one behind another -/
def rng : Int → Nat → List Int
  | _, 0 => []
  | v, n + 1 => v :: rng (v + 1) n
theorem rng_len : ∀ (n : Nat) (v : Int), (rng v n).length = n
  | 0, _ => rfl
  | n + 1, v => by simp [rng, rng_len n]
theorem rng_get : ∀ (n : Nat) (v : Int) (k : Nat) (h : k < (rng v n).length), (rng v n)[k] = v + k
  | 0, v, k, h => by simp [rng] at h
  | n + 1, v, 0, h => by simp [rng]
  | n + 1, v, k + 1, h => by
    simp only [rng, List.getElem_cons_succ]
    rw [rng_get n (v + 1) k]
    omega
theorem mem_rng : ∀ {n : Nat} {v x : Int}, x ∈ rng v n ↔ v ≤ x ∧ x < v + n
  | 0, v, x => by simp [rng] <;> omega
  | n + 1, v, x => by
    rw [rng, List.mem_cons, mem_rng]
    omega
def valS (l : List Sp) : List Int := l.flatMap fun s => rng s.lo (s.hi - s.lo + 1).toNat
theorem valS_cons (s : Sp) (r : List Sp) : valS (s :: r) = rng s.lo (s.hi - s.lo + 1).toNat ++ valS r := rfl
theorem spR_cons {p : Option Int} {s : Sp} {r : List Sp} (h : spR p (s :: r) = true) : s.lo ≤ s.hi ∧ -1048576 ≤ s.lo ∧ s.hi ≤ 1048576 ∧ (∀ q, p = some q → q + 1 < s.lo) ∧ spR (some s.hi) r = true := by
  cases p with
  | none => simp [spR] at h; exact ⟨h.1.1.1, h.1.1.2, h.1.2, by simp, h.2⟩
  | some q => simp [spR] at h; exact ⟨h.1.1.1.1, h.1.1.1.2, h.1.1.2, fun x e => by cases e; exact h.1.2, h.2⟩
theorem spR_lo {q : Int} : ∀ {l : List Sp}, spR (some q) l = true → ∀ s ∈ l, q + 1 < s.lo ∧ s.lo ≤ s.hi
  | [], _, s, hs => by simp at hs
  | t :: r, h, s, hs => by
    obtain ⟨h1, h2, h3, h4, h5⟩ := spR_cons h
    have h6 := h4 q rfl
    rcases List.mem_cons.1 hs with rfl | hs
    · exact ⟨h6, h1⟩
    · have := spR_lo h5 s hs
      omega
theorem inS_less {v q : Int} {l : List Sp} (h : spR (some q) l = true) (hv : v ≤ q + 1) : inS v l = false := by
  unfold inS
  rw [List.any_eq_false]
  intro s hs
  have := spR_lo h s hs
  simp; omega
theorem plR_less {v q : Int} : ∀ {l : List Sp} {n : Int}, spR (some q) l = true → v ≤ q + 1 → plR v l n = n
  | [], n, _, _ => rfl
  | s :: r, n, h, hv => by
    obtain ⟨h1, h2, h3, h4, h5⟩ := spR_cons h
    have h6 := h4 q rfl
    unfold plR
    rw [if_neg (by omega), if_neg (by omega)]
    exact plR_less h5 (by omega)
theorem inS_cons {v : Int} {s : Sp} {r : List Sp} : inS v (s :: r) = ((decide (s.lo ≤ v) && decide (v ≤ s.hi)) || inS v r) := rfl
/-- both tell the same place -/
theorem plS_plR {v : Int} : ∀ {l : List Sp} {p : Option Int} {n : Int}, spR p l = true → plS v l n = if inS v l = true then plR v l n else -1
  | [], p, n, _ => rfl
  | s :: r, p, n, h => by
    obtain ⟨h1, h2, h3, h4, h5⟩ := spR_cons h
    unfold plS plR
    rw [inS_cons]
    by_cases c1 : v < s.lo
    · rw [if_pos c1, inS_less h5 (by omega)]
      simp; omega
    · rw [if_neg c1]
      by_cases c2 : v ≤ s.hi
      · rw [if_pos c2, if_pos (by simp; left; omega), if_neg (by omega), if_pos (by omega), plR_less h5 (by omega)]
      · have e : (decide (s.lo ≤ v) && decide (v ≤ s.hi)) = false := by simp; omega
        rw [if_neg c2, e, Bool.false_or, plS_plR h5, if_pos (show s.hi < v by omega), show n + (s.hi - s.lo + 1) = n + s.hi + 1 - s.lo by omega]
theorem plR_ge {v : Int} : ∀ {l : List Sp} {p : Option Int} {n : Int}, spR p l = true → n ≤ plR v l n
  | [], p, n, _ => Int.le_refl _
  | s :: r, p, n, h => by
    obtain ⟨h1, h2, h3, h4, h5⟩ := spR_cons h
    unfold plR
    have := plR_ge (v := v) (n := if s.hi < v then n + s.hi + 1 - s.lo else if s.lo ≤ v then n + v - s.lo else n) h5
    split at this
    · rename_i c; rw [if_pos c]; omega
    · rename_i c
      rw [if_neg c]
      split at this
      · rename_i c2; rw [if_pos c2]; omega
      · rename_i c2; rw [if_neg c2]; exact this
/-- what stands at a place stands there -/
theorem atS_pl : ∀ {l : List Sp} {p : Option Int} {k n : Int}, spR p l = true → 0 ≤ k → k < spS l → ∃ v, atS l k = (v, true) ∧ inS v l = true ∧ plR v l n = n + k ∧ (∀ q, p = some q → q + 1 < v)
  | [], p, k, n, _, h0, hk => by simp [spS] at hk; omega
  | s :: r, p, k, n, h, h0, hk => by
    obtain ⟨h1, h2, h3, h4, h5⟩ := spR_cons h
    have e : spS (s :: r) = (s.hi - s.lo + 1) + spS r := rfl
    unfold atS plR
    by_cases c : k < s.hi - s.lo + 1
    · rw [if_pos c]
      refine ⟨s.lo + k, rfl, by rw [inS_cons]; simp; left; omega, ?_, fun q e => by have := h4 q e; omega⟩
      rw [if_neg (by omega), if_pos (by omega), plR_less h5 (by omega)]
      omega
    · rw [if_neg c]
      obtain ⟨v, k1, k2, k3, k4⟩ := atS_pl (k := k - (s.hi - s.lo + 1)) (n := n + s.hi + 1 - s.lo) h5 (by omega) (by omega)
      have k5 := k4 s.hi rfl
      refine ⟨v, k1, by rw [inS_cons, k2, Bool.or_true], ?_, fun q e => by have := h4 q e; omega⟩
      rw [if_pos (by omega), k3]
      omega
end Go.RR.M
set_option linter.unusedVariables false
set_option linter.unusedSimpArgs false
set_option maxRecDepth 100000
set_option maxHeartbeats 4000000
namespace Go.RR.M
open Go Go.RR
theorem rv_l0 (h : List Ob) (l : List Sp) (i : Nat) (hlt : i < l.length) (hs : -1048576 ≤ l[i].lo ∧ l[i].hi ≤ 1048576) : ∀ (d : Nat) (v : Int) (acc : List Int), v + d = l[i].hi + 1 → -1048576 ≤ v → acc.length + d ≤ 10000000 →
    evw C y0 i_ref03_Values_l0 [(0, spsV l), (3, .own h.length 0 acc.length acc.length), (4, iv i), (5, iv v)] (h ++ [.row 1 (acc.map (V.int .i64))]) =
      some (.ext 2, [(0, spsV l), (3, .own h.length 0 (acc ++ rng v d).length (acc ++ rng v d).length), (4, iv i), (5, iv (l[i].hi + 1)), (24, .bool false)], h ++ [.row 1 ((acc ++ rng v d).map (V.int .i64))])
  | 0, v, acc, e, hv, ha => by
    have e' : v = l[i].hi + 1 := by omega
    subst e'
    rw [r_ref03_Values_0]
    have h1 : ¬ (l[i].hi + 1 ≤ l[i].hi) := by omega
    have hi : l[i]? = some l[i] := by simp [hlt]
    simp [b_ref03_Values_0, hi, h1, hlt, rng]
  | d + 1, v, acc, e, hv, ha => by
    have h1 : v ≤ l[i].hi := by omega
    have hi : l[i]? = some l[i] := by simp [hlt]
    have ih := rv_l0 h l i hlt hs d (v + 1) (acc ++ [v]) (by omega) (by omega) (by simp; omega)
    have hw : IntKind.i64.wrap (v + 1) = v + 1 := wrap64 (by omega) (by omega)
    have k4 : bsfL (.int .i64 0) [iv v] = some (.sl 1 [iv v]) := rfl
    have k5 : ∀ nid, appV nid (h ++ [.row 1 (acc.map (V.int .i64))]) 1 8 (.own h.length 0 acc.length acc.length) (.sl 1 [iv v]) = some (.own h.length 0 (acc.length + 1) (acc.length + 1), some (h.length, .row 1 (acc.map (V.int .i64) ++ [iv v]))) := fun nid => appV_own (by simp) (by simp) rfl (by simp) (by simp) (by omega) (by omega)
    rw [r_ref03_Values_0, rng, show acc ++ v :: rng (v + 1) d = acc ++ [v] ++ rng (v + 1) d by simp, ← ih]
    simp [b_ref03_Values_0, hi, h1, hlt, k4, k5, hw]
theorem valS_len : ∀ {l : List Sp}, (∀ s ∈ l, s.lo ≤ s.hi ∧ -1048576 ≤ s.lo ∧ s.hi ≤ 1048576) → ((valS l).length : Int) = spS l
  | [], _ => rfl
  | s :: r, h => by
    have h1 := h s (by simp)
    have ih := valS_len (l := r) fun x hx => h x (by simp [hx])
    rw [valS_cons, List.length_append, rng_len]
    simp only [spS]
    omega
theorem rv_l1 (h : List Ob) (l : List Sp) (hl : l.length ≤ 1000000) (hb : ∀ s ∈ l, s.lo ≤ s.hi ∧ -1048576 ≤ s.lo ∧ s.hi ≤ 1048576) : ∀ (d i : Nat) (acc : List Int), i + d = l.length → acc.length + spS (l.drop i) ≤ 10000000 →
    evw C y0 i_ref03_Values_l1 [(0, spsV l), (3, .own h.length 0 acc.length acc.length), (4, iv i)] (h ++ [.row 1 (acc.map (V.int .i64))]) =
      some (.ext 0, [(0, spsV l), (3, .own h.length 0 (acc ++ valS (l.drop i)).length (acc ++ valS (l.drop i)).length), (4, iv l.length), (10, .bool false)], h ++ [.row 1 ((acc ++ valS (l.drop i)).map (V.int .i64))])
  | 0, i, acc, e, ha => by
    obtain rfl : i = l.length := by omega
    rw [List.drop_length, r_ref03_Values_1]
    simp [b_ref03_Values_1, valS]
  | d + 1, i, acc, e, ha => by
    have hlt : i < l.length := by omega
    have h2 : (i : Int) < l.length := by omega
    have h3 : l[i]? = some l[i] := by simp [hlt]
    have hw := wrap_succ (i := i) (n := l.length) hlt (by omega)
    have hs := hb l[i] (List.getElem_mem hlt)
    have hnn : 0 ≤ spS (l.drop (i + 1)) := spS_nn fun s hs => hb s (List.mem_of_mem_drop hs)
    rw [List.drop_eq_getElem_cons hlt] at ha ⊢
    simp only [spS] at ha
    have h4 := rv_l0 h l i hlt ⟨hs.2.1, hs.2.2⟩ (l[i].hi - l[i].lo + 1).toNat l[i].lo acc (by omega) hs.2.1 (by omega)
    have ih := rv_l1 h l hl hb d (i + 1) (acc ++ rng l[i].lo (l[i].hi - l[i].lo + 1).toNat) (by omega) (by rw [List.length_append, rng_len]; omega)
    simp only [Int.natCast_add, Int.cast_ofNat_Int] at ih
    rw [valS_cons, ← List.append_assoc, ← ih, r_ref03_Values_1]
    simp [b_ref03_Values_1, h2, h3, h4, hw]
end Go.RR.M
set_option linter.unusedVariables false
set_option linter.unusedSimpArgs false
set_option maxRecDepth 100000
namespace Go.RR
def val : List Nat → Nat
  | [] => 0
  | a :: r => a + 256 * val r
def repB (m : Nat) : Nat → Nat
  | 0 => 0
  | k + 1 => m + 256 * repB m k
theorem and_split (a c m M : Nat) (ha : a < 256) (hm : m < 256) : (a + 256 * c) &&& (m + 256 * M) = (a &&& m) + 256 * (c &&& M) := by
  have h8 : (256 : Nat) = 2 ^ 8 := rfl
  have hx : a &&& m < 2 ^ 8 := Nat.and_lt_two_pow _ (by omega)
  apply Nat.eq_of_testBit_eq
  intro i
  rw [Nat.testBit_and, Nat.add_comm a, Nat.add_comm m, Nat.add_comm (a &&& m), h8, Nat.testBit_two_pow_mul_add c (by omega) i, Nat.testBit_two_pow_mul_add M (by omega) i, Nat.testBit_two_pow_mul_add (c &&& M) hx i]
  split
  · rw [Nat.testBit_and]
  · rw [Nat.testBit_and]
def b1 (a : Nat) : Nat := (a / 2 &&& 85) + (a &&& 85)
def b2 (a : Nat) : Nat := (a / 4 &&& 51) + (a &&& 51)
def b3 (a : Nat) : Nat := (a / 16 + a) &&& 15
theorem b1_lt : ∀ a : Fin 256, b1 a.val < 256 := by decide +kernel
theorem b2_lt : ∀ a : Fin 256, b2 a.val < 256 := by decide +kernel
theorem b21_ok : ∀ a : Fin 256, b2 (b1 a.val) ≤ 68 ∧ b2 (b1 a.val) % 16 ≤ 4 := by decide +kernel
theorem b1_low : ∀ (a : Fin 256) (c : Fin 2), (a.val / 2 + 128 * c.val) &&& 85 = a.val / 2 &&& 85 := by decide +kernel
theorem b2_low : ∀ (a : Fin 256) (c : Fin 4), (a.val / 4 + 64 * c.val) &&& 51 = a.val / 4 &&& 51 := by decide +kernel
theorem b3_low : ∀ (a : Fin 69) (c : Fin 5), (a.val / 16 + 16 * c.val + a.val) &&& 15 = (a.val / 16 + a.val) &&& 15 := by decide +kernel
theorem pc_eq : ∀ a : Fin 256, b3 (b2 (b1 a.val)) = Go.Lib.popAux 8 a.val ∧ Go.Lib.popAux 8 a.val ≤ 8 := by decide +kernel
def okB (l : List Nat) : Prop := ∀ a ∈ l, a < 256
theorem st1 : ∀ (l : List Nat), okB l → ((val l / 2) &&& repB 85 l.length) + (val l &&& repB 85 l.length) = val (l.map b1)
  | [], _ => rfl
  | a :: r, h => by
    have ha := h a (by simp)
    have ih := st1 r fun x hx => h x (by simp [hx])
    simp only [val, List.length_cons, repB, List.map_cons]
    have e : (a + 256 * val r) / 2 = (a / 2 + 128 * (val r % 2)) + 256 * (val r / 2) := by omega
    have e2 : (a / 2 + 128 * (val r % 2)) &&& 85 = a / 2 &&& 85 := b1_low ⟨a, ha⟩ ⟨val r % 2, by omega⟩
    rw [e, and_split _ _ _ _ (by omega) (by omega), and_split _ _ _ _ ha (by omega), e2, ← ih, b1]
    omega
theorem st2 : ∀ (l : List Nat), okB l → ((val l / 4) &&& repB 51 l.length) + (val l &&& repB 51 l.length) = val (l.map b2)
  | [], _ => rfl
  | a :: r, h => by
    have ha := h a (by simp)
    have ih := st2 r fun x hx => h x (by simp [hx])
    simp only [val, List.length_cons, repB, List.map_cons]
    have e : (a + 256 * val r) / 4 = (a / 4 + 64 * (val r % 4)) + 256 * (val r / 4) := by omega
    have e2 : (a / 4 + 64 * (val r % 4)) &&& 51 = a / 4 &&& 51 := b2_low ⟨a, ha⟩ ⟨val r % 4, by omega⟩
    rw [e, and_split _ _ _ _ (by omega) (by omega), and_split _ _ _ _ ha (by omega), e2, ← ih, b2]
    omega
theorem val_mod : ∀ (l : List Nat), (∀ a ∈ l, a ≤ 68 ∧ a % 16 ≤ 4) → val l % 16 ≤ 4
  | [], _ => by simp [val]
  | a :: r, h => by
    have := h a (by simp)
    simp only [val]
    omega
theorem st3 : ∀ (l : List Nat), (∀ a ∈ l, a ≤ 68 ∧ a % 16 ≤ 4) → (val l / 16 + val l) &&& repB 15 l.length = val (l.map b3)
  | [], _ => rfl
  | a :: r, h => by
    have ha := h a (by simp)
    have hr : ∀ a ∈ r, a ≤ 68 ∧ a % 16 ≤ 4 := fun x hx => h x (by simp [hx])
    have ih := st3 r hr
    have hm := val_mod r hr
    simp only [val, List.length_cons, repB, List.map_cons]
    have e : (a + 256 * val r) / 16 + (a + 256 * val r) = (a / 16 + 16 * (val r % 16) + a) + 256 * (val r / 16 + val r) := by omega
    rw [e, and_split _ _ _ _ (by omega) (by omega), b3_low ⟨a, by omega⟩ ⟨val r % 16, by omega⟩, ih, b3]
theorem pop_add (k n : Nat) : ∀ (a c : Nat), a < 2 ^ k → Go.Lib.popAux (k + n) (a + 2 ^ k * c) = Go.Lib.popAux k a + Go.Lib.popAux n c := by
  induction k with
  | zero => intro a c h; simp at h; subst h; simp [Go.Lib.popAux]
  | succ k ih =>
    intro a c h
    rw [Nat.pow_succ] at h ⊢
    rw [show k + 1 + n = k + n + 1 by omega, Go.Lib.popAux, Go.Lib.popAux, show 2 ^ k * 2 * c = 2 * (2 ^ k * c) by rw [Nat.mul_comm (2 ^ k) 2, Nat.mul_assoc], show (a + 2 * (2 ^ k * c)) / 2 = a / 2 + 2 ^ k * c by omega, ih (a / 2) c (by omega)]
    omega
theorem pop_val : ∀ (l : List Nat), okB l → Go.Lib.popAux (8 * l.length) (val l) = (l.map (Go.Lib.popAux 8)).sum
  | [], _ => rfl
  | a :: r, h => by
    have ha := h a (by simp)
    have ih := pop_val r fun x hx => h x (by simp [hx])
    rw [List.length_cons, show 8 * (r.length + 1) = 8 + 8 * r.length by omega]
    show Go.Lib.popAux _ (a + 2 ^ 8 * val r) = _
    rw [pop_add 8 (8 * r.length) a (val r) ha, ih]
    rfl
def bytesN : Nat → Nat → List Nat
  | 0, _ => []
  | n + 1, x => x % 256 :: bytesN n (x / 256)
theorem bytesN_len : ∀ n x, (bytesN n x).length = n
  | 0, _ => rfl
  | n + 1, x => by simp [bytesN, bytesN_len n]
theorem bytesN_ok : ∀ n x, okB (bytesN n x)
  | 0, _ => by simp [okB, bytesN]
  | n + 1, x => fun a ha => by
    rcases List.mem_cons.1 ha with rfl | ha
    · omega
    · exact bytesN_ok n _ a ha
theorem bytesN_val : ∀ n x, x < 256 ^ n → val (bytesN n x) = x
  | 0, x, h => by simp at h; simp [bytesN, val, h]
  | n + 1, x, h => by
    rw [Nat.pow_succ] at h
    have := bytesN_val n (x / 256) (by omega)
    simp only [bytesN, val, this]
    omega
theorem s8a (c0 T1 : Nat) (h : c0 ≤ 8) : (c0 + 256 * T1) / 256 = T1 := by omega
theorem s8b (c0 c1 c2 c3 T3 T2 T1 T0 : Nat) (h : c0 ≤ 8 ∧ c1 ≤ 8 ∧ c2 ≤ 8) (e2 : T2 = c2 + 256 * T3) (e1 : T1 = c1 + 256 * T2) (e0 : T0 = c0 + 256 * T1) : (T0 + T1) / 65536 = T2 + T3 := by omega
theorem s8d (c0 c1 c2 c3 T4 T3 T2 T1 T0 : Nat) (e3 : T3 = c3 + 256 * T4) (e2 : T2 = c2 + 256 * T3) (e1 : T1 = c1 + 256 * T2) (e0 : T0 = c0 + 256 * T1) : T0 = (c0 + 256 * c1 + 65536 * c2 + 16777216 * c3) + 4294967296 * T4 := by omega
theorem s8c (l0 l1 l2 l3 T4 T5 T6 T7 T0 T1 T2 T3 : Nat) (h : l0 ≤ 134744072 ∧ l1 ≤ 134744072 ∧ l2 ≤ 134744072 ∧ l3 ≤ 134744072) (e0 : T0 = l0 + 4294967296 * T4) (e1 : T1 = l1 + 4294967296 * T5) (e2 : T2 = l2 + 4294967296 * T6) (e3 : T3 = l3 + 4294967296 * T7) : (T0 + T1 + (T2 + T3)) / 4294967296 = T4 + T5 + T6 + T7 := by omega
theorem s8e (s T : Nat) (h : s ≤ 64) : (s + 256 * T) % 128 = s := by omega
theorem sum8 (c0 c1 c2 c3 c4 c5 c6 c7 : Nat) (h : c0 ≤ 8 ∧ c1 ≤ 8 ∧ c2 ≤ 8 ∧ c3 ≤ 8 ∧ c4 ≤ 8 ∧ c5 ≤ 8 ∧ c6 ≤ 8 ∧ c7 ≤ 8) (t u w : Nat) (ht : t = c0 + 256 * (c1 + 256 * (c2 + 256 * (c3 + 256 * (c4 + 256 * (c5 + 256 * (c6 + 256 * c7))))))) (hu : u = t + t / 256) (hw : w = u + u / 65536) :
    t ≤ 578721382704613384 ∧ (w + w / 4294967296) % 128 = c0 + (c1 + (c2 + (c3 + (c4 + (c5 + (c6 + c7)))))) := by
  obtain ⟨h0, h1, h2, h3, h4, h5, h6, h7⟩ := h
  obtain ⟨T7, e7⟩ : ∃ T, T = c7 := ⟨_, rfl⟩
  rw [← e7] at ht
  obtain ⟨T6, e6⟩ : ∃ T, T = c6 + 256 * T7 := ⟨_, rfl⟩
  rw [← e6] at ht
  obtain ⟨T5, e5⟩ : ∃ T, T = c5 + 256 * T6 := ⟨_, rfl⟩
  rw [← e5] at ht
  obtain ⟨T4, e4⟩ : ∃ T, T = c4 + 256 * T5 := ⟨_, rfl⟩
  rw [← e4] at ht
  obtain ⟨T3, e3⟩ : ∃ T, T = c3 + 256 * T4 := ⟨_, rfl⟩
  rw [← e3] at ht
  obtain ⟨T2, e2⟩ : ∃ T, T = c2 + 256 * T3 := ⟨_, rfl⟩
  rw [← e2] at ht
  obtain ⟨T1, e1⟩ : ∃ T, T = c1 + 256 * T2 := ⟨_, rfl⟩
  rw [← e1] at ht
  have hb : t ≤ 578721382704613384 := by
    have b7 : T7 ≤ 8 := by omega
    have b6 : T6 ≤ 2056 := by omega
    have b5 : T5 ≤ 526344 := by omega
    have b4 : T4 ≤ 134744072 := by omega
    have b3 : T3 ≤ 34494482440 := by clear b5 b6 b7; omega
    have b2 : T2 ≤ 8830587504648 := by clear b5 b6 b7 b4; omega
    have b1 : T1 ≤ 2260630401189896 := by clear b5 b6 b7 b4 b3; omega
    clear b5 b6 b7 b4 b3 b2
    omega
  refine ⟨hb, ?_⟩
  rw [show t / 256 = T1 by rw [ht]; exact s8a c0 T1 h0] at hu
  have hu2 : u / 65536 = T2 + T3 := by rw [hu]; exact s8b c0 c1 c2 c3 T3 T2 T1 t ⟨h0, h1, h2⟩ e2 e1 ht
  rw [hu2, hu] at hw
  have q0 := s8d c0 c1 c2 c3 T4 T3 T2 T1 t e3 e2 e1 ht
  have q1 := s8d c1 c2 c3 c4 T5 T4 T3 T2 T1 e4 e3 e2 e1
  have q2 := s8d c2 c3 c4 c5 T6 T5 T4 T3 T2 e5 e4 e3 e2
  have q3 := s8d c3 c4 c5 c6 T7 T6 T5 T4 T3 e6 e5 e4 e3
  have hw2 : w / 4294967296 = T4 + T5 + T6 + T7 := by
    rw [hw]
    refine s8c _ _ _ _ T4 T5 T6 T7 t T1 T2 T3 ⟨?_, ?_, ?_, ?_⟩ q0 q1 q2 q3
    · clear q0 q1 q2 q3 hw hu hu2 ht hb e1 e2 e3 e4 e5 e6 e7; omega
    · clear q0 q1 q2 q3 hw hu hu2 ht hb e1 e2 e3 e4 e5 e6 e7; omega
    · clear q0 q1 q2 q3 hw hu hu2 ht hb e1 e2 e3 e4 e5 e6 e7; omega
    · clear q0 q1 q2 q3 hw hu hu2 ht hb e1 e2 e3 e4 e5 e6 e7; omega
  have e : w + w / 4294967296 = (c0 + (c1 + (c2 + (c3 + (c4 + (c5 + (c6 + c7))))))) + 256 * (T1 + T2 + T3 + T4 + T5 + T6 + T7) := by
    rw [hw2, hw]
    clear q0 q1 q2 q3 hw hu hu2 hb hw2
    omega
  rw [e]
  refine s8e _ _ ?_
  clear q0 q1 q2 q3 hw hu hu2 ht hb hw2 e e1 e2 e3 e4 e5 e6 e7
  omega
theorem list8 {l : List Nat} (h : l.length = 8) : ∃ a0 a1 a2 a3 a4 a5 a6 a7, l = [a0, a1, a2, a3, a4, a5, a6, a7] := by
  obtain ⟨a0, l, rfl⟩ := List.exists_cons_of_length_eq_add_one h
  obtain ⟨a1, l, rfl⟩ := List.exists_cons_of_length_eq_add_one (n := 6) (by simpa using h)
  obtain ⟨a2, l, rfl⟩ := List.exists_cons_of_length_eq_add_one (n := 5) (by simpa using h)
  obtain ⟨a3, l, rfl⟩ := List.exists_cons_of_length_eq_add_one (n := 4) (by simpa using h)
  obtain ⟨a4, l, rfl⟩ := List.exists_cons_of_length_eq_add_one (n := 3) (by simpa using h)
  obtain ⟨a5, l, rfl⟩ := List.exists_cons_of_length_eq_add_one (n := 2) (by simpa using h)
  obtain ⟨a6, l, rfl⟩ := List.exists_cons_of_length_eq_add_one (n := 1) (by simpa using h)
  obtain ⟨a7, l, rfl⟩ := List.exists_cons_of_length_eq_add_one (n := 0) (by simpa using h)
  obtain rfl : l = [] := by simpa using h
  exact ⟨_, _, _, _, _, _, _, _, rfl⟩
theorem bound8 (l : List Nat) (h : l.length = 8) (m : Nat) (hm : ∀ a ∈ l, a ≤ m) : val l ≤ m * 72340172838076673 := by
  obtain ⟨a0, a1, a2, a3, a4, a5, a6, a7, rfl⟩ := list8 h
  simp only [List.mem_cons, List.not_mem_nil, or_false, forall_eq_or_imp, forall_eq] at hm
  simp only [val]
  omega
/-- so many ones -/
theorem ones_eq (x y z t : Nat) (hx : x < 18446744073709551616) (hy : y = (x / 2 &&& 6148914691236517205) + (x &&& 6148914691236517205)) (hz : z = (y / 4 &&& 3689348814741910323) + (y &&& 3689348814741910323)) (ht : t = (z / 16 + z) &&& 1085102592571150095) :
    y < 18446744073709551616 ∧ z ≤ 4919131752989213764 ∧ t ≤ 578721382704613384 ∧ ((t + t / 256) + (t + t / 256) / 65536 + ((t + t / 256) + (t + t / 256) / 65536) / 4294967296) % 128 = Go.Lib.popAux 64 x := by
  obtain ⟨l, hl⟩ : ∃ l, l = bytesN 8 x := ⟨_, rfl⟩
  have hlen : l.length = 8 := by rw [hl, bytesN_len]
  have hok : okB l := by rw [hl]; exact bytesN_ok 8 x
  have hv : val l = x := by rw [hl]; exact bytesN_val 8 x (by simpa using hx)
  have h1 := st1 l hok
  have hok1 : okB (l.map b1) := fun a ha => by
    obtain ⟨b, hb, rfl⟩ := List.mem_map.1 ha
    exact b1_lt ⟨b, hok b hb⟩
  have h2 := st2 (l.map b1) hok1
  have hok2 : ∀ a ∈ (l.map b1).map b2, a ≤ 68 ∧ a % 16 ≤ 4 := fun a ha => by
    rw [List.map_map] at ha
    obtain ⟨b, hb, rfl⟩ := List.mem_map.1 ha
    exact b21_ok ⟨b, hok b hb⟩
  have h3 := st3 ((l.map b1).map b2) hok2
  have h4 := pop_val l hok
  simp only [List.length_map, hlen] at h1 h2 h3 h4
  rw [hv, show repB 85 8 = 6148914691236517205 from rfl, ← hy] at h1
  rw [← h1, show repB 51 8 = 3689348814741910323 from rfl, ← hz] at h2
  rw [← h2, show repB 15 8 = 1085102592571150095 from rfl, ← ht] at h3
  rw [hv] at h4
  have hm : ((l.map b1).map b2).map b3 = l.map (Go.Lib.popAux 8) := by
    rw [List.map_map, List.map_map]
    exact List.map_congr_left fun a ha => (pc_eq ⟨a, hok a ha⟩).1
  rw [hm] at h3
  have g1 := bound8 (l.map b1) (by simpa using hlen) 255 fun a ha => by have := hok1 a ha; omega
  have g2 := bound8 ((l.map b1).map b2) (by simpa using hlen) 68 fun a ha => (hok2 a ha).1
  rw [← h1] at g1
  rw [← h2] at g2
  refine ⟨by omega, by omega, ?_⟩
  obtain ⟨a0, a1, a2, a3, a4, a5, a6, a7, e⟩ := list8 hlen
  have q : ∀ a ∈ l, Go.Lib.popAux 8 a ≤ 8 := fun a ha => (pc_eq ⟨a, hok a ha⟩).2
  rw [e] at q h3 h4
  simp only [List.mem_cons, List.not_mem_nil, or_false, forall_eq_or_imp, forall_eq] at q
  simp only [List.map_cons, List.map_nil, val, Nat.mul_zero, Nat.add_zero] at h3
  simp only [List.map_cons, List.map_nil, List.sum_cons, List.sum_nil, Nat.add_zero] at h4
  rw [show 8 * 8 = 64 from rfl] at h4
  rw [h4]
  exact sum8 _ _ _ _ _ _ _ _ q t _ _ h3 rfl rfl
/-- the greatest place -/
theorem posL_last : ∀ (n b : Nat), b < 2 ^ n → b ≠ 0 → (posL n b).getLast? = some (Go.Lib.bitLenAux n b - 1)
  | 0, b, h, h0 => by simp at h; omega
  | n + 1, b, h, h0 => by
    rw [Nat.pow_succ] at h
    rw [Go.Lib.bitLenAux, if_neg h0]
    by_cases c : b / 2 = 0
    · have : b = 1 := by omega
      subst this
      have e : Go.Lib.bitLenAux n 0 = 0 := by cases n <;> simp [Go.Lib.bitLenAux]
      simp [posL, posL_zero, e]
    · have ih := posL_last n (b / 2) (by omega) c
      have hb : 1 ≤ Go.Lib.bitLenAux n (b / 2) := by
        cases n with
        | zero => simp at h; omega
        | succ n => rw [Go.Lib.bitLenAux, if_neg c]; omega
      have e : ((posL n (b / 2)).map (· + 1)).getLast? = some (1 + Go.Lib.bitLenAux n (b / 2) - 1) := by
        rw [List.getLast?_map, ih]
        simp; omega
      unfold posL
      split
      · rw [List.getLast?_cons, e]
        rfl
      · exact e
end Go.RR
set_option linter.unusedVariables false
set_option linter.unusedSimpArgs false
set_option maxRecDepth 100000
namespace Go.RR
structure Dm where
  vals : List Int
  live : Nat
  deriving DecidableEq, Inhabited
abbrev domV (d : Dm) : V := .agg [intsV d.vals, .int .u64 (d.live : Nat)]
/-- rising numbers -/
def rising : Option Int → List Int → Bool
  | _, [] => true
  | p, v :: r => decide (-1048576 ≤ v) && decide (v ≤ 1048576) && (match p with
    | none => true
    | some q => decide (q < v)) && rising (some v) r
def mayD (d : Dm) : Bool := decide (d.vals.length ≤ 64) && decide (d.live < 2 ^ d.vals.length) && rising none d.vals
def listD (d : Dm) : List Int := if mayD d = true then leftR d.vals d.live else []
def sizeD (d : Dm) : Nat := (listD d).length
def keptD (p : Int → Bool) (d : Dm) : Dm := if mayD d = true then ⟨d.vals, keepB p d.vals d.live⟩ else ⟨[], 0⟩
theorem mayD_iff {d : Dm} : mayD d = true ↔ d.vals.length ≤ 64 ∧ d.live < 2 ^ d.vals.length ∧ rising none d.vals = true := by
  unfold mayD
  simp only [Bool.and_eq_true, decide_eq_true_eq]
  exact and_assoc
/-- ones, one by one -/
def valB : List Bool → Nat
  | [] => 0
  | b :: r => b.toNat + 2 * valB r
def keepL (p : Int → Bool) : List Int → Nat → List Bool
  | [], _ => []
  | v :: r, b => (b % 2 == 1 && p v) :: keepL p r (b / 2)
theorem keepL_len (p : Int → Bool) : ∀ (l : List Int) (b : Nat), (keepL p l b).length = l.length
  | [], _ => rfl
  | v :: r, b => by simp [keepL, keepL_len p r]
theorem valB_false : ∀ n, valB (List.replicate n false) = 0
  | 0 => rfl
  | n + 1 => by simp [List.replicate_succ, valB, valB_false n]
theorem valB_lt : ∀ l : List Bool, valB l < 2 ^ l.length
  | [] => by simp [valB]
  | b :: r => by
    have := valB_lt r
    rw [List.length_cons, Nat.pow_succ, valB]
    cases b <;> simp <;> omega
theorem valB_keep (p : Int → Bool) (m : Nat) : ∀ (l : List Int) (b : Nat), valB (keepL p l b ++ List.replicate m false) = keepB p l b
  | [], b => by simp [keepL, keepB, valB_false]
  | v :: r, b => by
    rw [keepL, List.cons_append, valB, valB_keep p m r, keepB]
    by_cases c : b % 2 = 1 <;> cases p v <;> simp [c]
theorem keepB_all : ∀ (l : List Int) (b : Nat), b < 2 ^ l.length → keepB (fun _ => true) l b = b
  | [], b, h => by simp at h; simp [keepB, h]
  | v :: r, b, h => by
    rw [List.length_cons, Nat.pow_succ] at h
    rw [keepB, keepB_all r (b / 2) (by omega)]
    by_cases c : b % 2 = 1
    · simp [c]; omega
    · simp [c]; omega
theorem keepB_odd (p : Int → Bool) (v : Int) (r : List Int) (b : Nat) : keepB p (v :: r) b % 2 = (if b % 2 = 1 ∧ p v = true then 1 else 0) ∧ keepB p (v :: r) b / 2 = keepB p r (b / 2) := by
  rw [keepB]
  split <;> constructor <;> omega
theorem keepB_keepB (p q : Int → Bool) : ∀ (l : List Int) (b : Nat), keepB p l (keepB q l b) = keepB (fun v => q v && p v) l b
  | [], b => rfl
  | v :: r, b => by
    obtain ⟨h1, h2⟩ := keepB_odd q v r b
    rw [keepB, h1, h2, keepB_keepB p q r, keepB]
    congr 1
    by_cases c : b % 2 = 1 <;> cases q v <;> cases p v <;> simp [c]
theorem leftR_keep (p : Int → Bool) : ∀ (l : List Int) (b : Nat), leftR l (keepB p l b) = (leftR l b).filter p
  | [], b => rfl
  | v :: r, b => by
    obtain ⟨h1, h2⟩ := keepB_odd p v r b
    rw [leftR, h1, h2, leftR_keep p r, leftR]
    by_cases c : b % 2 = 1
    · cases hp : p v <;> simp [c, hp]
    · simp [c]
theorem keepB_or (p q : Int → Bool) : ∀ (l : List Int) (b : Nat), keepB p l b ||| keepB q l b = keepB (fun v => p v || q v) l b
  | [], b => by simp [keepB]
  | v :: r, b => by
    obtain ⟨h1, h2⟩ := keepB_odd p v r b
    obtain ⟨h3, h4⟩ := keepB_odd q v r b
    obtain ⟨h5, h6⟩ := keepB_odd (fun v => p v || q v) v r b
    have e1 : (keepB p (v :: r) b ||| keepB q (v :: r) b) / 2 = keepB (fun v => p v || q v) (v :: r) b / 2 := by rw [Nat.or_div_two, h2, h4, h6, keepB_or p q r]
    have e2 : (keepB p (v :: r) b ||| keepB q (v :: r) b) % 2 = 1 ↔ keepB (fun v => p v || q v) (v :: r) b % 2 = 1 := by
      rw [Nat.or_mod_two_eq_one, h1, h3, h5]
      by_cases c : b % 2 = 1 <;> cases p v <;> cases q v <;> simp [c]
    omega
theorem keepB_and (p q : Int → Bool) : ∀ (l : List Int) (b : Nat), keepB p l b &&& keepB q l b = keepB (fun v => p v && q v) l b
  | [], b => by simp [keepB]
  | v :: r, b => by
    obtain ⟨h1, h2⟩ := keepB_odd p v r b
    obtain ⟨h3, h4⟩ := keepB_odd q v r b
    obtain ⟨h5, h6⟩ := keepB_odd (fun v => p v && q v) v r b
    have e1 : (keepB p (v :: r) b &&& keepB q (v :: r) b) / 2 = keepB (fun v => p v && q v) (v :: r) b / 2 := by rw [Nat.and_div_two, h2, h4, h6, keepB_and p q r]
    have e2 : (keepB p (v :: r) b &&& keepB q (v :: r) b) % 2 = 1 ↔ keepB (fun v => p v && q v) (v :: r) b % 2 = 1 := by
      rw [Nat.and_mod_two_eq_one, h1, h3, h5]
      by_cases c : b % 2 = 1 <;> cases p v <;> cases q v <;> simp [c]
    omega
theorem keepB_none : ∀ (l : List Int) (b : Nat), keepB (fun _ => false) l b = 0
  | [], b => rfl
  | v :: r, b => by simp [keepB, keepB_none r]
theorem leftR_head (l : List Int) (b : Nat) (hl : l.length ≤ 64) (hb : b < 2 ^ l.length) (h0 : b ≠ 0) : (leftR l b)[0]? = some (l.getD (Go.Lib.ctz 64 b) 0) := by
  have h64 : 2 ^ l.length ≤ 2 ^ 64 := Nat.pow_le_pow_right (by omega) hl
  have e : posL l.length b = lsts 64 b := (lsts_pos l.length 64 b hl hb hl).symm
  rw [← leftR_pos, e]
  show (List.map _ (lsts (63 + 1) b))[0]? = _
  rw [lsts, if_neg h0]
  rfl
theorem leftR_last (l : List Int) (b : Nat) (hl : l.length ≤ 64) (hb : b < 2 ^ l.length) (h0 : b ≠ 0) : (leftR l b).getLast? = some (l.getD (Go.Lib.bitLen b - 1) 0) := by
  rw [← leftR_pos, List.getLast?_map, posL_last _ _ hb h0]
  unfold Go.Lib.bitLen
  rw [Go.Lib.bitLenAux_fuel l.length b hb 64 hl]
  rfl
theorem leftR_nil (l : List Int) (b : Nat) (hb : b < 2 ^ l.length) : leftR l b = [] ↔ b = 0 := by
  rw [← leftR_pos, List.map_eq_nil_iff, posL_nil _ _ hb]
theorem leftR_size (l : List Int) (b : Nat) (hl : l.length ≤ 64) (hb : b < 2 ^ l.length) : Go.Lib.popAux 64 b = (leftR l b).length := by
  rw [leftR_len, ← posL_fuel l.length 64 b hb hl, posL_len]
theorem bitLen_bd (b : Nat) (n : Nat) (hn : n ≤ 64) (hb : b < 2 ^ n) (h0 : b ≠ 0) : 1 ≤ Go.Lib.bitLen b ∧ Go.Lib.bitLen b ≤ n := by
  refine ⟨?_, Go.Lib.bitLen_le b n hn hb⟩
  unfold Go.Lib.bitLen
  show 1 ≤ Go.Lib.bitLenAux (63 + 1) b
  rw [Go.Lib.bitLenAux, if_neg h0]
  omega
theorem ctz_lt (b n : Nat) (hn : n ≤ 64) (hb : b < 2 ^ n) (h0 : b ≠ 0) : Go.Lib.ctz 64 b < n := by
  have e : posL n b = lsts 64 b := (lsts_pos n 64 b hn hb hn).symm
  refine posL_lt n b _ ?_
  rw [e]
  show _ ∈ lsts (63 + 1) b
  rw [lsts, if_neg h0]
  simp
theorem rising_cons {p : Option Int} {v : Int} {r : List Int} (h : rising p (v :: r) = true) : -1048576 ≤ v ∧ v ≤ 1048576 ∧ (∀ q, p = some q → q < v) ∧ rising (some v) r = true := by
  cases p with
  | none => simp [rising] at h; exact ⟨h.1.1, h.1.2, by simp, h.2⟩
  | some q => simp [rising] at h; exact ⟨h.1.1.1, h.1.1.2, fun x e => by cases e; exact h.1.2, h.2⟩
theorem rising_all : ∀ {l : List Int} {p : Option Int}, rising p l = true → (∀ v ∈ l, -1048576 ≤ v ∧ v ≤ 1048576) ∧ l.Pairwise (· < ·) ∧ ∀ q, p = some q → ∀ v ∈ l, q < v
  | [], p, _ => ⟨by simp, .nil, by simp⟩
  | v :: r, p, h => by
    obtain ⟨h1, h2, h3, h4⟩ := rising_cons h
    obtain ⟨g1, g2, g3⟩ := rising_all h4
    refine ⟨fun x hx => ?_, List.pairwise_cons.2 ⟨g3 v rfl, g2⟩, fun q hq x hx => ?_⟩
    · rcases List.mem_cons.1 hx with rfl | hx
      · exact ⟨h1, h2⟩
      · exact g1 x hx
    · have := h3 q hq
      rcases List.mem_cons.1 hx with rfl | hx
      · exact this
      · have := g3 v rfl x hx; omega
end Go.RR
set_option linter.unusedVariables false
set_option linter.unusedSimpArgs false
set_option maxRecDepth 100000
set_option maxHeartbeats 4000000
namespace Go.RR
theorem orU' (a b : Nat) (ha : a < 18446744073709551616) (hb : b < 18446744073709551616) : IntKind.u64.wrap ((a % 2 ^ IntKind.u64.bits ||| b % 2 ^ IntKind.u64.bits : Nat) : Int) = ((a ||| b : Nat) : Int) := by
  rw [Nat.mod_eq_of_lt (show a < 2 ^ IntKind.u64.bits from ha), Nat.mod_eq_of_lt (show b < 2 ^ IntKind.u64.bits from hb)]
  have hx : a ||| b < 2 ^ 64 := Nat.or_lt_two_pow (by omega) (by omega)
  exact wrapU (by omega) (by omega)
end Go.RR
namespace Go.RR.M
open Go Go.RR
theorem blist (b : Nat) (hb : b < 18446744073709551616) (h : List Ob) : acw C n_bits_List [uv b] h = some (.ret (.sl 1 (nsV (posL 64 b))), h) := by
  have := bits_List b hb (done_pos 64 64 b hb (Nat.le_refl _)) h
  rw [lsts_pos 64 64 b (Nat.le_refl _) hb (Nat.le_refl _)] at this
  exact this
theorem fdU (x k : Nat) : ((x : Int)).fdiv (2 ^ k) = ((x / 2 ^ k : Nat) : Int) := by
  rw [show ((2 : Int) ^ k) = ((2 ^ k : Nat) : Int) by simp, Int.fdiv_eq_ediv_of_nonneg _ (Int.natCast_nonneg _)]
  exact (Int.natCast_ediv _ _).symm
theorem ones64 (x : Nat) (hx : x < 18446744073709551616) (h : List Ob) : acw C n_math_bits_OnesCount64 [uv x] h = some (.ret (iv (Go.Lib.popAux 64 x)), h) := by
  obtain ⟨q1, hq1⟩ : ∃ y, y = x / 2 := ⟨_, rfl⟩
  obtain ⟨p1, hp1⟩ : ∃ y, y = q1 &&& 6148914691236517205 := ⟨_, rfl⟩
  obtain ⟨p2, hp2⟩ : ∃ y, y = x &&& 6148914691236517205 := ⟨_, rfl⟩
  obtain ⟨y, hy⟩ : ∃ y, y = p1 + p2 := ⟨_, rfl⟩
  obtain ⟨q2, hq2⟩ : ∃ z, z = y / 4 := ⟨_, rfl⟩
  obtain ⟨p3, hp3⟩ : ∃ z, z = q2 &&& 3689348814741910323 := ⟨_, rfl⟩
  obtain ⟨p4, hp4⟩ : ∃ z, z = y &&& 3689348814741910323 := ⟨_, rfl⟩
  obtain ⟨z, hz⟩ : ∃ z, z = p3 + p4 := ⟨_, rfl⟩
  obtain ⟨q3, hq3⟩ : ∃ y, y = z / 16 := ⟨_, rfl⟩
  obtain ⟨s, hs⟩ : ∃ y, y = q3 + z := ⟨_, rfl⟩
  obtain ⟨t, ht⟩ : ∃ y, y = s &&& 1085102592571150095 := ⟨_, rfl⟩
  obtain ⟨q4, hq4⟩ : ∃ y, y = t / 256 := ⟨_, rfl⟩
  obtain ⟨u, hu⟩ : ∃ y, y = t + q4 := ⟨_, rfl⟩
  obtain ⟨q5, hq5⟩ : ∃ y, y = u / 65536 := ⟨_, rfl⟩
  obtain ⟨w, hw⟩ : ∃ y, y = u + q5 := ⟨_, rfl⟩
  obtain ⟨q6, hq6⟩ : ∃ y, y = w / 4294967296 := ⟨_, rfl⟩
  obtain ⟨v, hv⟩ : ∃ y, y = w + q6 := ⟨_, rfl⟩
  obtain ⟨h1, h2, h3, h4⟩ := ones_eq x y z t hx (by rw [hy, hp1, hp2, hq1]) (by rw [hz, hp3, hp4, hq2]) (by rw [ht, hs, hq3])
  obtain ⟨pc, hpc⟩ : ∃ y, y = Go.Lib.popAux 64 x := ⟨_, rfl⟩
  rw [← hpc] at h4 ⊢
  have h4' : v % 128 = pc := by rw [← h4, hv, hq6, hw, hq5, hu, hq4]
  have f1 : (x : Int).fdiv (2 ^ min 1 IntKind.u64.bits) = (q1 : Int) := by rw [hq1]; exact fdU x 1
  have f2 : (y : Int).fdiv (2 ^ min 2 IntKind.u64.bits) = (q2 : Int) := by rw [hq2]; exact fdU y 2
  have f3 : (z : Int).fdiv (2 ^ min 4 IntKind.u64.bits) = (q3 : Int) := by rw [hq3]; exact fdU z 4
  have f4 : (t : Int).fdiv (2 ^ min 8 IntKind.u64.bits) = (q4 : Int) := by rw [hq4]; exact fdU t 8
  have f5 : (u : Int).fdiv (2 ^ min 16 IntKind.u64.bits) = (q5 : Int) := by rw [hq5]; exact fdU u 16
  have f6 : (w : Int).fdiv (2 ^ min 32 IntKind.u64.bits) = (q6 : Int) := by rw [hq6]; exact fdU w 32
  have w0 : ∀ n : Nat, n < 18446744073709551616 → IntKind.u64.wrap (n : Int) = n := fun n hn => wrapU (by omega) (by omega)
  have g1 := w0 q1 (by omega)
  have g2 := w0 q2 (by omega)
  have g3 := w0 q3 (by omega)
  have g4 := w0 q4 (by omega)
  have g5 := w0 q5 (by omega)
  have g6 := w0 q6 (by omega)
  have a1 := andU' q1 6148914691236517205 (by omega) (by omega)
  have a2 := andU' x 6148914691236517205 (by omega) (by omega)
  have a3 := andU' q2 3689348814741910323 (by omega) (by omega)
  have a4 := andU' y 3689348814741910323 (by omega) (by omega)
  have a5 := andU' s 1085102592571150095 (by omega) (by omega)
  rw [← hp1] at a1
  rw [← hp2] at a2
  rw [← hp3] at a3
  rw [← hp4] at a4
  rw [← ht] at a5
  have s1 : IntKind.u64.wrap ((p1 : Int) + p2) = y := by rw [wrapU (by omega) (by omega)]; omega
  have s2 : IntKind.u64.wrap ((p3 : Int) + p4) = z := by rw [wrapU (by omega) (by omega)]; omega
  have s3 : IntKind.u64.wrap ((q3 : Int) + z) = s := by rw [wrapU (by omega) (by omega)]; omega
  have s4 : IntKind.u64.wrap ((t : Int) + q4) = u := by rw [wrapU (by omega) (by omega)]; omega
  have s5 : IntKind.u64.wrap ((u : Int) + q5) = w := by rw [wrapU (by omega) (by omega)]; omega
  have s6 : IntKind.u64.wrap ((w : Int) + q6) = v := by rw [wrapU (by omega) (by omega)]; omega
  have hvb : v < 9223372036854775808 := by omega
  have s7 : IntKind.i64.wrap (v : Int) = v := wrap64 (by omega) (by omega)
  have s8 : IntKind.i64.wrap ((v % 2 ^ IntKind.i64.bits &&& 127 % 2 ^ IntKind.i64.bits : Nat) : Int) = pc := by
    rw [Nat.mod_eq_of_lt (show v < 2 ^ IntKind.i64.bits from Nat.lt_of_lt_of_le hvb (by decide)), show 127 % 2 ^ IntKind.i64.bits = 2 ^ 7 - 1 from rfl, Nat.and_two_pow_sub_one_eq_mod, show 2 ^ 7 = 128 from rfl, h4']
    exact wrap64 (by omega) (by omega)
  refine acw_ex (v := iv pc) (CT T_math_bits_OnesCount64) rfl rfl (fun _ => rfl) (by simp) ?_
  clear hq1 hp1 hp2 hy hq2 hp3 hp4 hz hq3 hs ht hq4 hu hq5 hw hq6 hv h4 h4' hpc w0
  simp [runW_fin, F_math_bits_OnesCount64, i_math_bits_OnesCount64, f1, f2, f3, f4, f5, f6, g1, g2, g3, g4, g5, g6, a1, a2, a3, a4, a5, s1, s2, s3, s4, s5, s6, s7, s8]
theorem count (b : Nat) (hb : b < 18446744073709551616) (h : List Ob) : acw C n_bits_Count [uv b] h = some (.ret (iv (Go.Lib.popAux 64 b)), h) := by
  have k := ones64 b hb
  refine acw_ex (v := iv (Go.Lib.popAux 64 b)) (CT T_bits_Count) rfl rfl (fun _ => rfl) (by simp) ?_
  simp [runW_fin, F_bits_Count, i_bits_Count, k]
theorem len64 (b : Nat) (hb : b < 18446744073709551616) (h : List Ob) : acw C n_math_bits_Len64 [uv b] h = some (.ret (iv (Go.Lib.bitLen b)), h) := by
  refine acw_S (a2 := [uv b]) rfl rfl rfl ?_ rfl
  have h1 : (0 : Int) ≤ b ∧ (b : Int) < 18446744073709551616 := by omega
  simp only [C, S, if_neg (show ¬ n_math_bits_Len64 = n_slices_Clone_sint_int from by decide), if_neg (show ¬ n_math_bits_Len64 = n_math_bits_TrailingZeros64 from by decide), if_true, if_pos h1, Int.toNat_natCast]
theorem greatest (b : Nat) (hb : b < 18446744073709551616) (h : List Ob) : acw C n_bits_Greatest [uv b] h = some (.ret (iv (Go.Lib.bitLen b - 1)), h) := by
  have hl := Go.Lib.bitLen_le b 64 (Nat.le_refl _) hb
  have k1 := len64 b hb
  have w1 : IntKind.i64.wrap (64 - (Go.Lib.bitLen b : Int)) = 64 - Go.Lib.bitLen b := wrap64 (by omega) (by omega)
  have w2 : IntKind.i64.wrap (63 - (64 - (Go.Lib.bitLen b : Int))) = Go.Lib.bitLen b - 1 := by rw [wrap64 (by omega) (by omega)]; omega
  have k : ∀ h, acw C n_math_bits_LeadingZeros64 [uv b] h = some (.ret (iv (64 - Go.Lib.bitLen b)), h) := fun h => by
    refine acw_ex (v := iv (64 - Go.Lib.bitLen b)) (CT T_math_bits_LeadingZeros64) rfl rfl (fun _ => rfl) (by simp) ?_
    simp [runW_fin, F_math_bits_LeadingZeros64, i_math_bits_LeadingZeros64, k1, w1]
  refine acw_ex (v := iv (Go.Lib.bitLen b - 1)) (CT T_bits_Greatest) rfl rfl (fun _ => rfl) (by simp) ?_
  simp [runW_fin, F_bits_Greatest, i_bits_Greatest, k, w2]
theorem first (n : Nat) (hn : n ≤ 64) (h : List Ob) : acw C n_bits_First [iv n] h = some (.ret (uv (2 ^ n - 1)), h) := by
  refine acw_ex (v := uv (2 ^ n - 1)) (CT T_bits_First) rfl rfl (fun _ => rfl) (by simp) ?_
  by_cases c0 : n = 0
  · subst c0
    simp [runW_fin, F_bits_First, i_bits_First]
  have c0' : ¬ (n : Int) ≤ 0 := by omega
  by_cases c1 : n = 64
  · subst c1
    simp [runW_fin, F_bits_First, i_bits_First]
  have c1' : ¬ (64 : Int) ≤ n := by omega
  have hp : 2 ^ n ≤ 2 ^ 63 := Nat.pow_le_pow_right (by omega) (by omega)
  have hq : 0 < 2 ^ n := Nat.two_pow_pos n
  have hn0 : ¬ (n : Int) < 0 := by omega
  obtain ⟨P, hP⟩ : ∃ P, P = 2 ^ n := ⟨_, rfl⟩
  have w1 : IntKind.u64.wrap (2 ^ min n IntKind.u64.bits) = (P : Int) := by
    rw [show min n IntKind.u64.bits = n from Nat.min_eq_left (show n ≤ 64 by omega), show ((2 : Int) ^ n) = (P : Int) by rw [hP]; simp]
    exact wrapU (by omega) (by omega)
  have w2 : IntKind.u64.wrap ((P : Int) - 1) = ((P - 1 : Nat) : Int) := by rw [wrapU (by omega) (by omega)]; omega
  rw [← hP]
  simp [runW_fin, F_bits_First, i_bits_First, c0, c0', c1', hn0, w1, w2]
theorem bits_of (k : Nat) (hk : k < 64) (h : List Ob) : acw C n_bits_Of [.sl 1 [iv k]] h = some (.ret (uv (2 ^ k)), h) := by
  refine acw_ex (v := uv (2 ^ k)) (CT T_bits_Of) rfl rfl (fun _ => rfl) (by simp) ?_
  have hp : 2 ^ k ≤ 2 ^ 63 := Nat.pow_le_pow_right (by omega) (by omega)
  have l1 : ∀ a : Nat, a = 2 ^ k → evw C y0 i_bits_Of_l0 [(3, uv a), (6, .sl 1 [iv k]), (7, iv 1), (8, iv 1)] [] = some (.ext 0, [(3, uv a), (6, .sl 1 [iv k]), (7, iv 1), (8, iv 1), (9, .bool false)], []) := fun a _ => by
    rw [r_bits_Of_0]
    simp [b_bits_Of_0]
  have l0 : evw C y0 i_bits_Of_l0 [(3, .int .u64 0), (6, .sl 1 [iv k]), (7, iv 1), (8, iv 0)] [] = some (.ext 0, [(3, uv (2 ^ k)), (6, .sl 1 [iv k]), (7, iv 1), (8, iv 1), (9, .bool false)], []) := by
    have h1 : (k : Int) < 64 := by omega
    have hn0 : ¬ (k : Int) < 0 := by omega
    have l1 := l1 _ rfl
    obtain ⟨P, hP⟩ : ∃ P, P = 2 ^ k := ⟨_, rfl⟩
    have w1 : IntKind.u64.wrap (2 ^ min k IntKind.u64.bits) = (P : Int) := by
      rw [show min k IntKind.u64.bits = k from Nat.min_eq_left (show k ≤ 64 by omega), show ((2 : Int) ^ k) = (P : Int) by rw [hP]; simp]
      exact wrapU (by omega) (by omega)
    have w2 : IntKind.u64.wrap ((P : Int) % 2 ^ IntKind.u64.bits) = P := by
      rw [show ((2 : Int) ^ IntKind.u64.bits) = 18446744073709551616 from rfl, Int.emod_eq_of_lt (by omega) (by omega)]
      exact wrapU (by omega) (by omega)
    rw [← hP] at l1 ⊢
    rw [r_bits_Of_0, ← l1]
    simp [b_bits_Of_0, h1, hn0, w1, w2]
  simp [runW_fin, F_bits_Of, i_bits_Of, l0]
end Go.RR.M
set_option linter.unusedVariables false
set_option linter.unusedSimpArgs false
set_option maxRecDepth 100000
set_option maxHeartbeats 4000000
namespace Go.RR
theorem anU' (a b : Nat) (ha : a < 18446744073709551616) (hb : b < 18446744073709551616) : (IntKind.u64.wrap ((BitVec.ofInt IntKind.u64.bits (a : Int) &&& ~~~ BitVec.ofInt IntKind.u64.bits (b : Int)).toNat : Int) = 0) ↔ a &&& b = a := by
  show (IntKind.u64.wrap ((BitVec.ofInt 64 (a : Int) &&& ~~~ BitVec.ofInt 64 (b : Int)).toNat : Int) = 0) ↔ a &&& b = a
  rw [BitVec.ofInt_natCast, BitVec.ofInt_natCast]
  have hlt : (BitVec.ofNat 64 a &&& ~~~ BitVec.ofNat 64 b).toNat < 2 ^ 64 := BitVec.isLt _
  have hw : IntKind.u64.wrap ((BitVec.ofNat 64 a &&& ~~~ BitVec.ofNat 64 b).toNat : Int) = ((BitVec.ofNat 64 a &&& ~~~ BitVec.ofNat 64 b).toNat : Int) := wrapU (by omega) (by omega)
  have e3 : (BitVec.ofNat 64 a &&& BitVec.ofNat 64 b).toNat = a &&& b := by
    rw [BitVec.toNat_and, BitVec.toNat_ofNat, BitVec.toNat_ofNat, Nat.mod_eq_of_lt (show a < 2 ^ 64 from ha), Nat.mod_eq_of_lt (show b < 2 ^ 64 from hb)]
  have e4 : (BitVec.ofNat 64 a).toNat = a := by rw [BitVec.toNat_ofNat]; exact Nat.mod_eq_of_lt ha
  have key : (BitVec.ofNat 64 a &&& ~~~ BitVec.ofNat 64 b) = 0#64 ↔ BitVec.ofNat 64 a &&& BitVec.ofNat 64 b = BitVec.ofNat 64 a := by
    constructor
    · intro h
      apply BitVec.eq_of_getLsbD_eq
      intro i hi
      have := congrArg (fun v => v.getLsbD i) h
      simp only [BitVec.getLsbD_and, BitVec.getLsbD_not, BitVec.getLsbD_zero, hi, decide_true, Bool.true_and] at this ⊢
      revert this
      generalize (BitVec.ofNat 64 a).getLsbD i = p
      generalize (BitVec.ofNat 64 b).getLsbD i = q
      cases p <;> cases q <;> decide
    · intro h
      apply BitVec.eq_of_getLsbD_eq
      intro i hi
      have := congrArg (fun v => v.getLsbD i) h
      simp only [BitVec.getLsbD_and, BitVec.getLsbD_not, BitVec.getLsbD_zero, hi, decide_true, Bool.true_and] at this ⊢
      revert this
      generalize (BitVec.ofNat 64 a).getLsbD i = p
      generalize (BitVec.ofNat 64 b).getLsbD i = q
      cases p <;> cases q <;> decide
  rw [hw]
  constructor
  · intro h
    have h0 : (BitVec.ofNat 64 a &&& ~~~ BitVec.ofNat 64 b) = 0#64 := BitVec.eq_of_toNat_eq (by simp only [BitVec.toNat_zero]; omega)
    rw [← e3, key.1 h0, e4]
  · intro h
    have h0 : BitVec.ofNat 64 a &&& BitVec.ofNat 64 b = BitVec.ofNat 64 a := BitVec.eq_of_toNat_eq (by rw [e3, e4, h])
    rw [key.2 h0]
    rfl
theorem an_bin (a b : Nat) (ha : a < 18446744073709551616) (hb : b < 18446744073709551616) : ∃ A : Nat, bin .andNot (.int .u64 (a : Int)) (.int .u64 (b : Int)) = some (.int .u64 (A : Int)) ∧ (A = 0 ↔ a &&& b = a) := by
  have h := anU' a b ha hb
  have hlt : (BitVec.ofInt IntKind.u64.bits (a : Int) &&& ~~~ BitVec.ofInt IntKind.u64.bits (b : Int)).toNat < 2 ^ 64 := BitVec.isLt _
  have hw : IntKind.u64.wrap ((BitVec.ofInt IntKind.u64.bits (a : Int) &&& ~~~ BitVec.ofInt IntKind.u64.bits (b : Int)).toNat : Int) = ((BitVec.ofInt IntKind.u64.bits (a : Int) &&& ~~~ BitVec.ofInt IntKind.u64.bits (b : Int)).toNat : Int) := wrapU (by omega) (by omega)
  refine ⟨(BitVec.ofInt IntKind.u64.bits (a : Int) &&& ~~~ BitVec.ofInt IntKind.u64.bits (b : Int)).toNat, ?_, ?_⟩
  · simp only [bin, binI, if_true]
    rw [hw]
  · rw [hw] at h
    rw [← h]
    omega
theorem and_first (a n : Nat) : a &&& (2 ^ n - 1) = a ↔ a < 2 ^ n := by
  rw [Nat.and_two_pow_sub_one_eq_mod]
  constructor
  · intro h; rw [← h]; exact Nat.mod_lt _ (Nat.two_pow_pos n)
  · exact Nat.mod_eq_of_lt
end Go.RR
namespace Go.RR.M
open Go Go.RR
theorem may_loop (d : Dm) (hl : d.vals.length ≤ 64) : ∀ (k i : Nat) (p : Option Int), i + k = d.vals.length → (∀ (h : 0 < i) (h' : i - 1 < d.vals.length), p = some d.vals[i - 1]) → (i = 0 → p = none) →
    ∃ fr', evw C y0 i_dom_May_l0 [(1, .ptr 0 0 0 1), (20, intsV d.vals), (21, iv d.vals.length), (22, iv i)] [.row 2 [domV d]] = some (if rising p (d.vals.drop i) = true then (.ext 0, fr', [.row 2 [domV d]]) else (.ret, [(2, .bool false)], [.row 2 [domV d]]))
  | 0, i, p, e, hp, h0 => by
    obtain rfl : i = d.vals.length := by omega
    rw [r_dom_May_0, List.drop_length]
    refine ⟨[(1, .ptr 0 0 0 1), (20, intsV d.vals), (21, iv d.vals.length), (22, iv d.vals.length), (23, .bool false)], ?_⟩
    simp [b_dom_May_0, rising]
  | k + 1, i, p, e, hp, h0 => by
    have hlt : i < d.vals.length := by omega
    have h2 : (i : Int) < d.vals.length := by omega
    have h3 : d.vals[i]? = some d.vals[i] := by simp [hlt]
    have hw := wrap_succ (i := i) (n := d.vals.length) hlt (by omega)
    obtain ⟨fr', ih⟩ := may_loop d hl k (i + 1) (some d.vals[i]) (by omega) (fun _ _ => rfl) (by omega)
    simp only [Int.natCast_add, Int.cast_ofNat_Int] at ih
    rw [r_dom_May_0, List.drop_eq_getElem_cons hlt]
    simp only [rising]
    by_cases c1 : d.vals[i] < -1048576
    · have c1' : ¬ (-1048576 ≤ d.vals[i]) := by omega
      exact ⟨[], by simp [b_dom_May_0, h2, h3, c1, c1']⟩
    have c1' : -1048576 ≤ d.vals[i] := by omega
    by_cases c2 : 1048576 < d.vals[i]
    · have c2' : ¬ (d.vals[i] ≤ 1048576) := by omega
      exact ⟨[], by simp [b_dom_May_0, h2, h3, c1, c1', c2, c2']⟩
    have c2' : d.vals[i] ≤ 1048576 := by omega
    by_cases c4 : 0 < i
    · have hlt' : i - 1 < d.vals.length := by omega
      have hp1 := hp c4 hlt'
      subst hp1
      have w2 : IntKind.i64.wrap ((i : Int) - 1) = ((i - 1 : Nat) : Int) := by rw [wrap64 (by omega) (by omega)]; omega
      have h5 : d.vals[i - 1]? = some d.vals[i - 1] := by simp [hlt']
      by_cases c5 : d.vals[i] ≤ d.vals[i - 1]
      · have c5' : ¬ (d.vals[i - 1] < d.vals[i]) := by omega
        exact ⟨[], by simp [b_dom_May_0, h2, h3, c1, c1', c2, c2', c4, w2, h5, c5, c5']⟩
      · have c5' : d.vals[i - 1] < d.vals[i] := by omega
        refine ⟨fr', ?_⟩
        simp only [c1', c2', c5', decide_true, Bool.true_and, ← ih]
        simp [b_dom_May_0, h2, h3, c1, c2, c4, w2, h5, c5, hw]
    · have hi0 : i = 0 := by omega
      have hp0 := h0 hi0
      subst hp0
      refine ⟨fr', ?_⟩
      simp only [c1', c2', decide_true, Bool.true_and, ← ih]
      simp [b_dom_May_0, h2, h3, c1, c2, c4, hw]
theorem dom_May (d : Dm) (hd : d.live < 18446744073709551616) (hn : d.vals.length ≤ 1000000) (h : List Ob) : acw C n_dom_May [domV d] h = some (.ret (.bool (mayD d)), h) := by
  refine acw_ex (v := .bool (mayD d)) (CT T_dom_May) rfl rfl (fun _ => rfl) (by simp) ?_
  by_cases c1 : (64 : Int) < d.vals.length
  · have e : mayD d = false := by unfold mayD; simp; omega
    rw [e]
    simp [runW_fin, F_dom_May, i_dom_May, c1]
  have hl : d.vals.length ≤ 64 := by omega
  have kf := first d.vals.length hl
  have hp : 2 ^ d.vals.length ≤ 2 ^ 64 := Nat.pow_le_pow_right (by omega) hl
  have hq : 0 < 2 ^ d.vals.length := Nat.two_pow_pos _
  obtain ⟨A, kA, ha⟩ := an_bin d.live (2 ^ d.vals.length - 1) hd (by omega)
  have ha := ha.trans (and_first d.live d.vals.length)
  obtain ⟨F, hF⟩ : ∃ F, F = 2 ^ d.vals.length - 1 := ⟨_, rfl⟩
  rw [← hF] at kf kA
  obtain ⟨fr', lp⟩ := may_loop d hl d.vals.length 0 none (by omega) (by omega) (fun _ => rfl)
  simp only [List.drop_zero, Int.cast_ofNat_Int] at lp
  by_cases c2 : d.live < 2 ^ d.vals.length
  · have ha := ha.2 c2
    cases cr : rising none d.vals with
    | true =>
      have e : mayD d = true := mayD_iff.2 ⟨hl, c2, cr⟩
      rw [cr] at lp
      rw [e]
      simp at lp
      subst ha
      simp [runW_fin, F_dom_May, i_dom_May, c1, kf, kA, lp, ieq, ine]
    | false =>
      have e : mayD d = false := by unfold mayD; rw [cr, Bool.and_false]
      rw [cr] at lp
      rw [e]
      simp at lp
      subst ha
      simp [runW_fin, F_dom_May, i_dom_May, c1, kf, kA, lp, ieq, ine]
  · have ha : ¬ A = 0 := fun x => c2 (ha.1 x)
    have e : mayD d = false := by unfold mayD; simp [c2]
    rw [e]
    simp [runW_fin, F_dom_May, i_dom_May, c1, kf, kA, ha, ieq, ine]
theorem rmay_loop (d : Dm) (hl : d.vals.length ≤ 64) : ∀ (k i : Nat) (p : Option Int), i + k = d.vals.length → (∀ (h : 0 < i) (h' : i - 1 < d.vals.length), p = some d.vals[i - 1]) → (i = 0 → p = none) →
    ∃ fr', evw C y0 i_ref04_May_l0 [(1, .ptr 0 0 0 1), (3, iv i)] [.row 2 [domV d]] = some (if rising p (d.vals.drop i) = true then (.ext 0, (1, .ptr 0 0 0 1) :: fr', [.row 2 [domV d]]) else (.ret, [(2, .bool false)], [.row 2 [domV d]]))
  | 0, i, p, e, hp, h0 => by
    obtain rfl : i = d.vals.length := by omega
    rw [r_ref04_May_0, List.drop_length]
    refine ⟨[(3, iv d.vals.length), (14, .bool false)], ?_⟩
    simp [b_ref04_May_0, rising]
  | k + 1, i, p, e, hp, h0 => by
    have hlt : i < d.vals.length := by omega
    have h2 : (i : Int) < d.vals.length := by omega
    have h3 : d.vals[i]? = some d.vals[i] := by simp [hlt]
    have hw := wrap_succ (i := i) (n := d.vals.length) hlt (by omega)
    obtain ⟨fr', ih⟩ := rmay_loop d hl k (i + 1) (some d.vals[i]) (by omega) (fun _ _ => rfl) (by omega)
    simp only [Int.natCast_add, Int.cast_ofNat_Int] at ih
    rw [r_ref04_May_0, List.drop_eq_getElem_cons hlt]
    simp only [rising]
    by_cases c1 : d.vals[i] < -1048576
    · have c1' : ¬ (-1048576 ≤ d.vals[i]) := by omega
      exact ⟨[], by simp [b_ref04_May_0, h2, h3, c1, c1']⟩
    have c1' : -1048576 ≤ d.vals[i] := by omega
    by_cases c2 : 1048576 < d.vals[i]
    · have c2' : ¬ (d.vals[i] ≤ 1048576) := by omega
      exact ⟨[], by simp [b_ref04_May_0, h2, h3, c1, c1', c2, c2']⟩
    have c2' : d.vals[i] ≤ 1048576 := by omega
    by_cases c4 : 0 < i
    · have hlt' : i - 1 < d.vals.length := by omega
      have hp1 := hp c4 hlt'
      subst hp1
      have w2 : IntKind.i64.wrap ((i : Int) - 1) = ((i - 1 : Nat) : Int) := by rw [wrap64 (by omega) (by omega)]; omega
      have h5 : d.vals[i - 1]? = some d.vals[i - 1] := by simp [hlt']
      by_cases c5 : d.vals[i] ≤ d.vals[i - 1]
      · have c5' : ¬ (d.vals[i - 1] < d.vals[i]) := by omega
        exact ⟨[], by simp [b_ref04_May_0, h2, h3, c1, c1', c2, c2', c4, w2, h5, c5, c5']⟩
      · have c5' : d.vals[i - 1] < d.vals[i] := by omega
        refine ⟨fr', ?_⟩
        simp only [c1', c2', c5', decide_true, Bool.true_and, ← ih]
        simp [b_ref04_May_0, h2, h3, c1, c2, c4, w2, h5, c5, hw]
    · have hi0 : i = 0 := by omega
      have hp0 := h0 hi0
      subst hp0
      refine ⟨fr', ?_⟩
      simp only [c1', c2', decide_true, Bool.true_and, ← ih]
      simp [b_ref04_May_0, h2, h3, c1, c2, c4, hw]
theorem rtop_loop (d : Dm) (hl : d.vals.length ≤ 64) : ∀ (k i : Nat), i + k = d.vals.length →
    evw C y0 i_ref04_May_l1 [(1, .ptr 0 0 0 1), (4, uv (2 ^ i % 18446744073709551616)), (5, iv i)] [.row 2 [domV d]] = some (.ext 2, [(1, .ptr 0 0 0 1), (4, uv (2 ^ d.vals.length % 18446744073709551616)), (5, iv d.vals.length), (53, .bool false)], [.row 2 [domV d]])
  | 0, i, e => by
    obtain rfl : i = d.vals.length := by omega
    rw [r_ref04_May_1]
    simp [b_ref04_May_1]
  | k + 1, i, e => by
    have hlt : i < d.vals.length := by omega
    have h2 : (i : Int) < d.vals.length := by omega
    have hw := wrap_succ (i := i) (n := d.vals.length) hlt (by omega)
    have ih := rtop_loop d hl k (i + 1) (by omega)
    have hp : 2 ^ i ≤ 2 ^ 63 := Nat.pow_le_pow_right (by omega) (by omega)
    have hm : 2 ^ i % 18446744073709551616 = 2 ^ i := Nat.mod_eq_of_lt (by omega)
    have h9 : 2 ^ (i + 1) % 18446744073709551616 = (2 * 2 ^ i) % 18446744073709551616 := by rw [Nat.pow_succ, Nat.mul_comm]
    rw [h9] at ih
    rw [hm]
    obtain ⟨P, hP⟩ : ∃ P, P = 2 ^ i := ⟨_, rfl⟩
    rw [← hP] at ih hp ⊢
    have hw2 : IntKind.u64.wrap (2 * (P : Int)) = ((2 * P % 18446744073709551616 : Nat) : Int) := by
      unfold IntKind.wrap
      simp [IntKind.bits, IntKind.signed]
    obtain ⟨M, hM⟩ : ∃ M, M = 2 * P % 18446744073709551616 := ⟨_, rfl⟩
    rw [← hM] at ih hw2
    simp only [Int.natCast_add, Int.cast_ofNat_Int] at ih
    rw [r_ref04_May_1, ← ih]
    simp [b_ref04_May_1, h2, hw, hw2]
theorem ref04_May (d : Dm) (hd : d.live < 18446744073709551616) (hn : d.vals.length ≤ 1000000) (h : List Ob) : acw C n_ref04_May [domV d] h = some (.ret (.bool (mayD d)), h) := by
  refine acw_ex (v := .bool (mayD d)) (CT T_ref04_May) rfl rfl (fun _ => rfl) (by simp) ?_
  by_cases c1 : (64 : Int) < d.vals.length
  · have e : mayD d = false := by unfold mayD; simp; omega
    rw [e]
    simp [runW_fin, F_ref04_May, i_ref04_May, c1]
  have hl : d.vals.length ≤ 64 := by omega
  obtain ⟨fr', lp⟩ := rmay_loop d hl d.vals.length 0 none (by omega) (by omega) (fun _ => rfl)
  simp only [List.drop_zero, Int.cast_ofNat_Int] at lp
  have lt := rtop_loop d hl d.vals.length 0 (by omega)
  simp only [Nat.pow_zero] at lt
  cases cr : rising none d.vals with
  | false =>
    have e : mayD d = false := by unfold mayD; rw [cr, Bool.and_false]
    rw [cr] at lp
    rw [e]
    simp at lp
    simp [runW_fin, F_ref04_May, i_ref04_May, c1, lp]
  | true =>
    rw [cr] at lp
    simp at lp
    by_cases c3 : d.vals.length = 64
    · have e : mayD d = true := mayD_iff.2 ⟨hl, by rw [c3]; omega, cr⟩
      rw [e]
      have c3' : (d.vals.length : Int) = 64 := by omega
      obtain ⟨T, hT⟩ : ∃ T, T = 2 ^ d.vals.length % 18446744073709551616 := ⟨_, rfl⟩
      rw [← hT] at lt
      simp only [Nat.reduceMod, uv, Int.cast_ofNat_Int] at lt
      simp [runW_fin, F_ref04_May, i_ref04_May, c1, lp, lt, c3', ieq]
    · have hp : 2 ^ d.vals.length ≤ 2 ^ 63 := Nat.pow_le_pow_right (by omega) (by omega)
      rw [Nat.mod_eq_of_lt (show 2 ^ d.vals.length < 18446744073709551616 by omega)] at lt
      have c3' : ¬ (d.vals.length : Int) = 64 := by omega
      obtain ⟨P, hP⟩ : ∃ P, P = 2 ^ d.vals.length := ⟨_, rfl⟩
      rw [← hP] at lt
      have e : mayD d = decide ((d.live : Int) < P) := by
        unfold mayD
        rw [cr, Bool.and_true, ← hP]
        rw [show decide (d.vals.length ≤ 64) = true by simp [hl], Bool.true_and]
        simp
      rw [e]
      simp only [Nat.reduceMod, uv, Int.cast_ofNat_Int] at lt
      simp [runW_fin, F_ref04_May, i_ref04_May, c1, lp, lt, c3', ieq]
end Go.RR.M
set_option linter.unusedVariables false
set_option linter.unusedSimpArgs false
set_option maxRecDepth 100000
set_option maxHeartbeats 4000000
namespace Go.RR.M
open Go Go.RR
theorem mayD_live {d : Dm} (hm : mayD d = true) : d.live < 18446744073709551616 ∧ posL 64 d.live = posL d.vals.length d.live := by
  obtain ⟨h1, h2, h3⟩ := mayD_iff.1 hm
  have hp : 2 ^ d.vals.length ≤ 2 ^ 64 := Nat.pow_le_pow_right (by omega) h1
  exact ⟨by omega, posL_fuel _ _ _ h2 h1⟩
theorem list_loop (d : Dm) (ks : List Nat) (hk : ∀ k ∈ ks, k < d.vals.length) (hn : ks.length ≤ 1000) : ∀ (m i : Nat) (v : V) (acc : List Int) (h : List Ob), i + m = ks.length → acc.length ≤ i → h[0]? = some (.row 2 [domV d]) → AccB 1 h v 1 (acc.map (V.int .i64)) →
    ∃ v' h', evw C y0 i_dom_List_1_l0 [(1, .ptr 0 0 0 1), (3, v), (8, .sl 1 (nsV ks)), (9, iv ks.length), (10, iv i)] h = some (.ext 0, [(1, .ptr 0 0 0 1), (3, v'), (8, .sl 1 (nsV ks)), (9, iv ks.length), (10, iv ks.length), (11, .bool false)], h') ∧ AccB 1 h' v' 1 ((acc ++ (ks.drop i).map (fun k => d.vals.getD k 0)).map (V.int .i64))
  | 0, i, v, acc, h, e, ha, h0, hA => by
    obtain rfl : i = ks.length := by omega
    rw [List.drop_length, r_dom_List_1_0]
    refine ⟨v, h, ?_, by simpa using hA⟩
    simp [b_dom_List_1_0]
  | m + 1, i, v, acc, h, e, ha, h0, hA => by
    have hlt : i < ks.length := by omega
    have h2 : (i : Int) < ks.length := by omega
    have h3 : ks[i]? = some ks[i] := by simp [hlt]
    have hw := wrap_succ (i := i) (n := ks.length) hlt (by omega)
    have hks := hk ks[i] (List.getElem_mem hlt)
    have h4 : d.vals[ks[i]]? = some d.vals[ks[i]] := by simp [hks]
    have hh := (List.getElem?_eq_some_iff.1 h0).1
    obtain ⟨v1, w, e1, e2, -, e4⟩ := hA.app (b := 8) (y := .sl 1 [iv d.vals[ks[i]]]) (ys := [iv d.vals[ks[i]]]) (by omega) rfl (by simp only [List.length_cons, List.length_nil, List.length_map]; omega) (by simp only [List.length_cons, List.length_nil, List.length_map]; omega)
    have e2' : AccB 1 (wr h w) v1 1 ((acc ++ [d.vals[ks[i]]]).map (V.int .i64)) := by simpa using e2
    obtain ⟨v', h', ih1, ih2⟩ := list_loop d ks hk hn m (i + 1) v1 (acc ++ [d.vals[ks[i]]]) _ (by omega) (by simp; omega) (by rw [e4 0 (by omega)]; exact h0) e2'
    have k4 : bsfL (.int .i64 0) [iv d.vals[ks[i]]] = some (.sl 1 [iv d.vals[ks[i]]]) := rfl
    simp only [Int.natCast_add, Int.cast_ofNat_Int] at ih1
    refine ⟨v', h', ?_, ?_⟩
    · rw [r_dom_List_1_0, ← ih1]
      simp [b_dom_List_1_0, h2, h3, h0, h4, k4, e1, hw]
    · rw [List.drop_eq_getElem_cons hlt, List.map_cons]
      rw [List.append_assoc] at ih2
      have : d.vals.getD ks[i] 0 = d.vals[ks[i]] := by simp [hks]
      rw [this]
      exact ih2
theorem dom_List_1 (d : Dm) (hm : mayD d = true) (h : List Ob) : acw C n_dom_List_1 [domV d] h = some (.ret (intsV (leftR d.vals d.live)), h) := by
  obtain ⟨hl, hp⟩ := mayD_live hm
  obtain ⟨h1, h2, -⟩ := mayD_iff.1 hm
  have kb := blist d.live hl
  rw [hp] at kb
  have hn : (posL d.vals.length d.live).length ≤ 64 := by have := posL_cnt d.vals.length d.live; omega
  obtain ⟨v', h', l1, l2⟩ := list_loop d (posL d.vals.length d.live) (fun k hk => posL_lt _ _ _ hk) (by omega) (posL d.vals.length d.live).length 0 (.nsl 1) [] [.row 2 [domV d]] (by omega) (by simp) rfl .nil
  rw [List.drop_zero, List.nil_append, leftR_pos] at l2
  obtain ⟨K, hK⟩ : ∃ K, K = posL d.vals.length d.live := ⟨_, rfl⟩
  rw [← hK] at kb l1
  simp only [Int.cast_ofNat_Int] at l1
  have hf : RR.frz h' fdepth v' = some (intsV (leftR d.vals d.live)) := l2.frz 11 (frz_ints _ _ _)
  refine acw_pure (a2 := [domV d]) (h' := h') (v := v') (CT T_dom_List_1) rfl rfl ?_ hf (by simp)
  simp [runW_fin, F_dom_List_1, i_dom_List_1, kb, l1]
theorem dom_List (d : Dm) (hd : d.live < 18446744073709551616) (hn : d.vals.length ≤ 1000000) (h : List Ob) : acw C n_dom_List [domV d] h = some (.ret (intsV (listD d)), h) := by
  have k1 := dom_May d hd hn
  have k2 : ∀ h, acw C n_dom_asked_sint [domV d, .fn (.func n_dom_List_1) [] []] h = some (.ret (intsV (listD d)), h) := fun h => by
    unfold listD
    cases hm : mayD d with
    | true =>
      rw [hm] at k1
      have k3 := dom_List_1 d hm
      obtain ⟨L, hL⟩ : ∃ L, L = leftR d.vals d.live := ⟨_, rfl⟩
      rw [← hL] at k3
      rw [if_pos rfl, ← hL]
      refine acw_ex (v := intsV L) (CT T_dom_asked_sint) rfl rfl (fun _ => rfl) (by simp) ?_
      simp [runW_fin, F_dom_asked_sint, i_dom_asked_sint, k1, k3]
    | false =>
      rw [hm] at k1
      rw [if_neg (by simp)]
      refine acw_pure (a2 := [domV d, .fn (.func n_dom_List_1) [] []]) (h' := [.row 2 [domV d]]) (v := .nsl 1) (CT T_dom_asked_sint) rfl rfl ?_ rfl (by simp)
      simp [runW_fin, F_dom_asked_sint, i_dom_asked_sint, k1]
  refine acw_ex (v := intsV (listD d)) (CT T_dom_List) rfl rfl (fun _ => rfl) (by simp) ?_
  obtain ⟨L, hL⟩ : ∃ L, L = listD d := ⟨_, rfl⟩
  rw [← hL] at k2 ⊢
  simp [runW_fin, F_dom_List, i_dom_List, k2]
theorem dom_Size (d : Dm) (hd : d.live < 18446744073709551616) (hn : d.vals.length ≤ 1000000) (h : List Ob) : acw C n_dom_Size [domV d] h = some (.ret (iv (sizeD d)), h) := by
  have k1 := dom_May d hd hn
  have kc := count d.live hd
  have k3 : ∀ h, acw C n_dom_Size_1 [domV d] h = some (.ret (iv (Go.Lib.popAux 64 d.live)), h) := fun h => by
    refine acw_ex (v := iv (Go.Lib.popAux 64 d.live)) (CT T_dom_Size_1) rfl rfl (fun _ => rfl) (by simp) ?_
    simp [runW_fin, F_dom_Size_1, i_dom_Size_1, kc]
  have k2 : ∀ h, acw C n_dom_asked_int [domV d, .fn (.func n_dom_Size_1) [] []] h = some (.ret (iv (sizeD d)), h) := fun h => by
    refine acw_ex (v := iv (sizeD d)) (CT T_dom_asked_int) rfl rfl (fun _ => rfl) (by simp) ?_
    unfold sizeD listD
    cases hm : mayD d with
    | true =>
      obtain ⟨h1, h2, -⟩ := mayD_iff.1 hm
      rw [hm] at k1
      rw [if_pos rfl, ← leftR_size d.vals d.live h1 h2]
      simp [runW_fin, F_dom_asked_int, i_dom_asked_int, k1, k3]
    | false =>
      rw [hm] at k1
      rw [if_neg (by simp)]
      simp [runW_fin, F_dom_asked_int, i_dom_asked_int, k1]
  refine acw_ex (v := iv (sizeD d)) (CT T_dom_Size) rfl rfl (fun _ => rfl) (by simp) ?_
  simp [runW_fin, F_dom_Size, i_dom_Size, k2]
def leastD (d : Dm) : Int × Bool := match (listD d)[0]? with
  | some v => (v, true)
  | none => (0, false)
def greatD (d : Dm) : Int × Bool := match (listD d).getLast? with
  | some v => (v, true)
  | none => (0, false)
def singleD (d : Dm) : Int × Bool := if sizeD d = 1 then leastD d else (0, false)
theorem dom_at (d : Dm) (k : Int) (x : Int × Bool) (hk : x = if k < 0 then (0, false) else (d.vals.getD k.toNat 0, true)) (h0 : ¬ k < 0 → k.toNat < d.vals.length) (h : List Ob) : acw C n_dom_at [domV d, iv k] h = some (.ret (.tup [iv x.1, .bool x.2]), h) := by
  refine acw_ex (v := .tup [iv x.1, .bool x.2]) (CT T_dom_at) rfl rfl (fun _ => rfl) (by simp) ?_
  subst hk
  by_cases c : k < 0
  · rw [if_pos c]
    simp [runW_fin, F_dom_at, i_dom_at, c]
  · rw [if_neg c]
    have h1 := h0 c
    obtain ⟨m, rfl⟩ := Int.eq_ofNat_of_zero_le (show 0 ≤ k by omega)
    simp only [Int.toNat_natCast] at h1 ⊢
    have h2 : d.vals[m]? = some d.vals[m] := by simp [h1]
    have h3 : d.vals.getD m 0 = d.vals[m] := by simp [h1]
    rw [h3]
    simp [runW_fin, F_dom_at, i_dom_at, c, h1, h2]
theorem dom_Least (d : Dm) (hd : d.live < 18446744073709551616) (hn : d.vals.length ≤ 1000000) (h : List Ob) : acw C n_dom_Least [domV d] h = some (.ret (.tup [iv (leastD d).1, .bool (leastD d).2]), h) := by
  have k1 := dom_May d hd hn
  refine acw_ex (v := .tup [iv (leastD d).1, .bool (leastD d).2]) (CT T_dom_Least) rfl rfl (fun _ => rfl) (by simp) ?_
  cases hm : mayD d with
  | true =>
    obtain ⟨h1, h2, -⟩ := mayD_iff.1 hm
    rw [hm] at k1
    have kl := least d.live hd
    have ka := dom_at d (if d.live = 0 then -1 else Go.Lib.ctz 64 d.live) (leastD d) (by
      unfold leastD listD
      rw [hm, if_pos rfl]
      by_cases c : d.live = 0
      · rw [if_pos c, (leftR_nil d.vals d.live h2).2 c]
        rfl
      · rw [if_neg c, leftR_head d.vals d.live h1 h2 c, if_neg (by omega), Int.toNat_natCast]) (by
      intro hc
      by_cases c : d.live = 0
      · rw [if_pos c] at hc; omega
      · rw [if_neg c, Int.toNat_natCast]
        exact ctz_lt _ _ h1 h2 c)
    obtain ⟨K, hK⟩ : ∃ K : Int, K = if d.live = 0 then -1 else (Go.Lib.ctz 64 d.live : Int) := ⟨_, rfl⟩
    rw [← hK] at kl ka
    simp [runW_fin, F_dom_Least, i_dom_Least, k1, kl, ka]
  | false =>
    rw [hm] at k1
    have e : leastD d = (0, false) := by unfold leastD listD; rw [hm]; rfl
    rw [e]
    simp [runW_fin, F_dom_Least, i_dom_Least, k1]
theorem dom_Greatest (d : Dm) (hd : d.live < 18446744073709551616) (hn : d.vals.length ≤ 1000000) (h : List Ob) : acw C n_dom_Greatest [domV d] h = some (.ret (.tup [iv (greatD d).1, .bool (greatD d).2]), h) := by
  have k1 := dom_May d hd hn
  refine acw_ex (v := .tup [iv (greatD d).1, .bool (greatD d).2]) (CT T_dom_Greatest) rfl rfl (fun _ => rfl) (by simp) ?_
  cases hm : mayD d with
  | true =>
    obtain ⟨h1, h2, -⟩ := mayD_iff.1 hm
    rw [hm] at k1
    have kl := greatest d.live hd
    have hb := bitLen_bd d.live d.vals.length h1 h2
    have ka := dom_at d (Go.Lib.bitLen d.live - 1) (greatD d) (by
      unfold greatD listD
      rw [hm, if_pos rfl]
      by_cases c : d.live = 0
      · rw [(leftR_nil d.vals d.live h2).2 c, c]
        rfl
      · have := hb c
        have hx : ((Go.Lib.bitLen d.live : Int) - 1).toNat = Go.Lib.bitLen d.live - 1 := by omega
        rw [leftR_last d.vals d.live h1 h2 c, if_neg (by omega), hx]) (by
      intro hc
      by_cases c : d.live = 0
      · rw [c] at hc; exact absurd (by decide) hc
      · have := hb c
        omega)
    obtain ⟨K, hK⟩ : ∃ K : Int, K = (Go.Lib.bitLen d.live : Int) - 1 := ⟨_, rfl⟩
    rw [← hK] at kl ka
    simp [runW_fin, F_dom_Greatest, i_dom_Greatest, k1, kl, ka]
  | false =>
    rw [hm] at k1
    have e : greatD d = (0, false) := by unfold greatD listD; rw [hm]; rfl
    rw [e]
    simp [runW_fin, F_dom_Greatest, i_dom_Greatest, k1]
theorem dom_Single (d : Dm) (hd : d.live < 18446744073709551616) (hn : d.vals.length ≤ 1000000) (h : List Ob) : acw C n_dom_Single [domV d] h = some (.ret (.tup [iv (singleD d).1, .bool (singleD d).2]), h) := by
  have k1 := dom_Size d hd hn
  have k2 := dom_Least d hd hn
  refine acw_ex (v := .tup [iv (singleD d).1, .bool (singleD d).2]) (CT T_dom_Single) rfl rfl (fun _ => rfl) (by simp) ?_
  unfold singleD
  by_cases c : sizeD d = 1
  · rw [if_pos c]
    have c' : (sizeD d : Int) = 1 := by omega
    simp [runW_fin, F_dom_Single, i_dom_Single, k1, k2, c', c, ieq, ine]
  · rw [if_neg c]
    have c' : ¬ (sizeD d : Int) = 1 := by omega
    simp [runW_fin, F_dom_Single, i_dom_Single, k1, k2, c', c, ieq, ine]
theorem contains_int (l : List Int) (x : Int) (hl : l.length ≤ 4611686018427387904) (h : List Ob) : acw C n_slices_Contains_sint_int [intsV l, iv x] h = some (.ret (.bool (l.any fun y => x == y)), h) :=
  contains (C := C) (n := n_slices_Index_sint_int) (CT T_slices_Index_sint_int) (CT T_slices_Contains_sint_int) (enc := V.int .i64) (q := fun a b => a == b) cmp_int l x hl (fun _ _ => elt_int) Fz.int h
theorem listD_len (d : Dm) : (listD d).length ≤ 64 := by
  unfold listD
  split
  · rename_i hm
    obtain ⟨h1, -, -⟩ := mayD_iff.1 hm
    rw [leftR_len]
    have := posL_cnt d.vals.length d.live
    omega
  · simp
theorem dom_Has (d : Dm) (v : Int) (hd : d.live < 18446744073709551616) (hn : d.vals.length ≤ 1000000) (h : List Ob) : acw C n_dom_Has [domV d, iv v] h = some (.ret (.bool ((listD d).any fun y => v == y)), h) := by
  have k1 := dom_List d hd hn
  have hl := listD_len d
  have k2 := contains_int (listD d) v (by omega)
  obtain ⟨L, hL⟩ : ∃ L, L = listD d := ⟨_, rfl⟩
  rw [← hL] at k1 k2 ⊢
  obtain ⟨B, hB⟩ : ∃ B, B = L.any fun y => v == y := ⟨_, rfl⟩
  rw [← hB] at k2 ⊢
  refine acw_ex (v := .bool B) (CT T_dom_Has) rfl rfl (fun _ => rfl) (by simp) ?_
  simp [runW_fin, F_dom_Has, i_dom_Has, k1, k2]
theorem dom_Spans (d : Dm) (hd : d.live < 18446744073709551616) (hn : d.vals.length ≤ 1000000) (h : List Ob) : acw C n_dom_Spans [domV d] h = some (.ret (spsV (ofR (listD d)).1), h) := by
  have k1 := dom_List d hd hn
  have hl := listD_len d
  have k2 := spans_Of (listD d) (by omega)
  obtain ⟨L, hL⟩ : ∃ L, L = listD d := ⟨_, rfl⟩
  rw [← hL] at k1 k2 ⊢
  obtain ⟨B, hB⟩ : ∃ B, B = ofR L := ⟨_, rfl⟩
  rw [← hB] at k2 ⊢
  refine acw_ex (v := spsV B.1) (CT T_dom_Spans) rfl rfl (fun _ => rfl) (by simp) ?_
  simp [runW_fin, F_dom_Spans, i_dom_Spans, k1, k2]
theorem eq_ints (l m : List Int) (hl : l.length ≤ 4611686018427387904) (h : List Ob) : acw C n_slices_Equal_sint_int [intsV l, intsV m] h = some (.ret (.bool (decide (l = m))), h) := by
  have := equal (C := C) (n := n_slices_Equal_sint_int) (CT T_slices_Equal_sint_int) rfl (enc := V.int .i64) (q := fun a b => a == b) cmpn_int l m hl (fun _ => elt_int) h
  rw [all2_eq] at this
  rw [this]
  congr 4
  by_cases e : l = m <;> simp [e]
theorem dom_Same (d o : Dm) (hn : d.vals.length ≤ 1000000) (h : List Ob) : acw C n_dom_Same [domV d, domV o] h = some (.ret (.bool (decide (d = o))), h) := by
  have k := eq_ints d.vals o.vals (by omega)
  refine acw_ex (v := .bool (decide (d = o))) (CT T_dom_Same) rfl rfl (fun _ => rfl) (by simp) ?_
  obtain ⟨a, b⟩ := d
  obtain ⟨a', b'⟩ := o
  simp only [Dm.mk.injEq] at k ⊢
  by_cases c : b = b'
  · subst c
    by_cases c2 : a = a'
    · subst c2
      simp at k
      simp [runW_fin, F_dom_Same, i_dom_Same, k, ieq]
    · simp [c2] at k
      simp [runW_fin, F_dom_Same, i_dom_Same, k, c2, ieq]
  · have c' : ¬ (b : Int) = b' := by omega
    simp [runW_fin, F_dom_Same, i_dom_Same, c, c', ieq]
end Go.RR.M
set_option linter.unusedVariables false
set_option linter.unusedSimpArgs false
set_option maxRecDepth 100000
set_option maxHeartbeats 4000000
namespace Go.RR.M
open Go Go.RR
abbrev zD : V := .agg [.nsl 1, .int .u64 0]
theorem foldK_lt (q : Nat → Bool) : ∀ (ks : List Nat) (a : Nat), (∀ k ∈ ks, k < 64) → a < 18446744073709551616 → ks.foldl (fun a k => if q k = true then a ||| 2 ^ k else a) a < 18446744073709551616
  | [], a, _, h => h
  | k :: r, a, hk, h => by
    rw [List.foldl_cons]
    refine foldK_lt q r _ (fun x hx => hk x (by simp [hx])) ?_
    split
    · have hp : 2 ^ k ≤ 2 ^ 63 := Nat.pow_le_pow_right (by omega) (by have := hk k (by simp); omega)
      exact Nat.or_lt_two_pow (n := 64) h (by omega)
    · exact h
section
variable (d : Dm) (p : Int → Bool) (f kid : Nat) (cap cap2 : List V) (h : List Ob)
abbrev gK (d : Dm) (h : List Ob) (acc : Nat) : List Ob := h ++ [.row 2 [domV d], .row 2 [zD], .row 2 [.agg [intsV d.vals, uv acc]]]
theorem kept_loop (hk : h[kid]? = some (.row 1 [.fn (.func f) [] cap])) (hd : dataL cap = false) (hd2 : dataL cap2 = true) (hz : ∀ t x, frzL ((h ++ t).take 4096) (iv x :: cap) = some (iv x :: cap2)) (hf : ∀ x, acw C f (iv x :: cap2) [] = some (.ret (.bool (p x)), []))
    (ks : List Nat) (hks : ∀ k ∈ ks, k < d.vals.length) (hn : d.vals.length ≤ 64) (hkn : ks.length ≤ 64) : ∀ (m i acc : Nat), i + m = ks.length → acc < 18446744073709551616 →
    evw C y0 i_dom_kept_1_l0 [(1, .ptr kid 0 0 1), (2, .ptr h.length 0 0 1), (3, .ptr (h.length + 1) 0 0 1), (4, .ptr (h.length + 2) 0 0 1), (13, .sl 1 (nsV ks)), (14, iv ks.length), (15, iv i)] (gK d h acc) =
      some (.ext 0, [(1, .ptr kid 0 0 1), (2, .ptr h.length 0 0 1), (3, .ptr (h.length + 1) 0 0 1), (4, .ptr (h.length + 2) 0 0 1), (13, .sl 1 (nsV ks)), (14, iv ks.length), (15, iv ks.length), (16, .bool false)], gK d h ((ks.drop i).foldl (fun a k => if p (d.vals.getD k 0) = true then a ||| 2 ^ k else a) acc))
  | 0, i, acc, e, ha => by
    obtain rfl : i = ks.length := by omega
    rw [List.drop_length, r_dom_kept_1_0]
    simp [b_dom_kept_1_0]
  | m + 1, i, acc, e, ha => by
    have hlt : i < ks.length := by omega
    have h2 : (i : Int) < ks.length := by omega
    have h3 : ks[i]? = some ks[i] := by simp [hlt]
    have hw := wrap_succ (i := i) (n := ks.length) hlt (by omega)
    have hki := hks ks[i] (List.getElem_mem hlt)
    have h4 : d.vals[ks[i]]? = some d.vals[ks[i]] := by simp [hki]
    have h5 : d.vals.getD ks[i] 0 = d.vals[ks[i]] := by simp [hki]
    have hkl := (List.getElem?_eq_some_iff.1 hk).1
    have hk' : ∀ t, (h ++ t)[kid]? = some (.row 1 [.fn (.func f) [] cap]) := fun t => get_some hk
    have hq : ∀ t r, dq false r (crw C y0) f (iv d.vals[ks[i]] :: cap) (h ++ t) = some (.ret (.bool (p d.vals[ks[i]])), h ++ t) := fun t r =>
      dq_frz (hz t _) (by simp [dataL, V.data, hd]) (by simp [dataL, V.data, hd2]) (hf _) rfl rfl r
    have hdl : dataL (iv d.vals[ks[i]] :: cap) = false := by simp [dataL, V.data, hd]
    rw [List.drop_eq_getElem_cons hlt, List.foldl_cons, h5]
    cases c : p d.vals[ks[i]] with
    | true =>
      have hp : 2 ^ ks[i] ≤ 2 ^ 63 := Nat.pow_le_pow_right (by omega) (by omega)
      have ih := kept_loop hk hd hd2 hz hf ks hks hn hkn m (i + 1) (acc ||| 2 ^ ks[i]) (by omega) (Nat.or_lt_two_pow (n := 64) ha (by omega))
      have ho := orU' acc (2 ^ ks[i]) ha (by omega)
      have kb := bits_of ks[i] (by omega)
      obtain ⟨P, hP⟩ : ∃ P, P = 2 ^ ks[i] := ⟨_, rfl⟩
      rw [← hP] at ih ho kb ⊢
      have k4 : bsfL (.int .i64 0) [iv ks[i]] = some (.sl 1 [iv ks[i]]) := rfl
      simp only [Int.natCast_add, Int.cast_ofNat_Int] at ih
      rw [if_pos rfl, r_dom_kept_1_0, ← ih]
      rw [c] at hq
      simp [b_dom_kept_1_0, h2, h3, h4, hk', hdl, hq, kb, k4, ho, hw]
    | false =>
      have ih := kept_loop hk hd hd2 hz hf ks hks hn hkn m (i + 1) acc (by omega) ha
      simp only [Int.natCast_add, Int.cast_ofNat_Int] at ih
      rw [if_neg (by simp), r_dom_kept_1_0, ← ih]
      rw [c] at hq
      simp [b_dom_kept_1_0, h2, h3, h4, hk', hdl, hq, hw]
end
theorem clone_ints (l : List Int) (hl : l.length ≤ 1000000) (h : List Ob) : acw C n_slices_Clone_sint_int [intsV l] h = some (.ret (intsV l), h) := by
  refine acw_S (a2 := [intsV l]) rfl rfl rfl ?_ (by simp)
  have h1 : l.length * 8 ≤ 70368744177664 := by omega
  have h2 : l.length ≤ 70368744177664 := by omega
  have h3 : dataL (l.map (V.int .i64)) = true := dataL_all (by simp)
  simp [C, S, s_clone, h1, h2, h3]
theorem kept1 (d : Dm) (p : Int → Bool) (f kid : Nat) (cap cap2 : List V) (h : List Ob) (hm : mayD d = true) (hk : h[kid]? = some (.row 1 [.fn (.func f) [] cap])) (hd : dataL cap = false) (hd2 : dataL cap2 = true) (hz : ∀ t x, frzL ((h ++ t).take 4096) (iv x :: cap) = some (iv x :: cap2)) (hf : ∀ x, acw C f (iv x :: cap2) [] = some (.ret (.bool (p x)), [])) :
    acw C n_dom_kept_1 [domV d, .ptr kid 0 0 1] h = some (.ret (domV ⟨d.vals, keepB p d.vals d.live⟩), h ++ [.row 2 [domV d], .row 2 [domV ⟨d.vals, keepB p d.vals d.live⟩], .row 2 [domV ⟨d.vals, keepB p d.vals d.live⟩]]) := by
  obtain ⟨h1, h2, -⟩ := mayD_iff.1 hm
  obtain ⟨hl, hp⟩ := mayD_live hm
  have kb := blist d.live hl
  rw [hp] at kb
  have kc := clone_ints d.vals (by omega)
  have hcnt := posL_cnt d.vals.length d.live
  have lp := kept_loop d p f kid cap cap2 h hk hd hd2 hz hf (posL d.vals.length d.live) (fun k hk => posL_lt _ _ _ hk) h1 (by omega) (posL d.vals.length d.live).length 0 0 (by omega) (by omega)
  have e : (posL d.vals.length d.live).foldl (fun a k => if p (d.vals.getD k 0) = true then a ||| 2 ^ k else a) 0 = keepB p d.vals d.live := by
    have := keepB_fold p d.vals d.live 0 0 (fun k => d.vals.getD k 0) (fun k _ => rfl) (by simp)
    simpa using this
  rw [List.drop_zero, e] at lp
  obtain ⟨K, hK⟩ : ∃ K, K = posL d.vals.length d.live := ⟨_, rfl⟩
  obtain ⟨B, hB⟩ : ∃ B, B = keepB p d.vals d.live := ⟨_, rfl⟩
  rw [← hK] at kb lp
  rw [← hB] at lp ⊢
  simp only [gK, zD, uv, Int.cast_ofNat_Int] at lp
  rw [acw_hm (CT T_dom_kept_1) rfl]
  simp [runW_fin, F_dom_kept_1, i_dom_kept_1, kb, kc, lp]
def keptV (p : Int → Bool) (d : Dm) : V := if mayD d = true then domV ⟨d.vals, keepB p d.vals d.live⟩ else zD
theorem keptV_agg (p : Int → Bool) (d : Dm) : ∃ a b, keptV p d = .agg [a, .int .u64 b] ∧ a.cells.length = 1 ∧ a.one = true := by
  unfold keptV
  split
  · exact ⟨_, _, rfl, rfl, rfl⟩
  · exact ⟨_, _, rfl, rfl, rfl⟩
theorem keptV_frz (p : Int → Bool) (d : Dm) (h : List Ob) : frz h fdepth (keptV p d) = some (domV (keptD p d)) := by
  unfold keptV keptD
  split <;> rfl
/-- what is kept: what is written lies above all -/
theorem kept (d : Dm) (p : Int → Bool) (f : Nat) (cap cap2 : List V) (h : List Ob) (hv : d.live < 18446744073709551616) (hn : d.vals.length ≤ 1000000) (hd : dataL cap = false) (hd2 : dataL cap2 = true) (hz : ∀ t x, frzL ((h ++ t).take 4096) (iv x :: cap) = some (iv x :: cap2)) (hf : ∀ x, acw C f (iv x :: cap2) [] = some (.ret (.bool (p x)), [])) :
    ∃ t, acw C n_dom_kept [domV d, .fn (.func f) [] cap] h = some (.ret (keptV p d), h ++ t) := by
  have k1 := dom_May d hv hn
  unfold keptV
  cases hm : mayD d with
  | true =>
    rw [hm] at k1
    rw [if_pos rfl]
    have ka : ∀ g, g[h.length + 1]? = some (.row 1 [.fn (.func f) [] cap]) → (∀ t x, frzL ((g ++ t).take 4096) (iv x :: cap) = some (iv x :: cap2)) → ∃ t, acw C n_dom_asked_dom_Dom [domV d, .fn (.func n_dom_kept_1) [] [.ptr (h.length + 1) 0 0 1]] g = some (.ret (domV ⟨d.vals, keepB p d.vals d.live⟩), g ++ t) := by
      intro g hg hgz
      have kk := kept1 d p f (h.length + 1) cap cap2 (g ++ [.row 2 [domV d], .row 2 [zD], .row 2 [zD]]) hm (get_some hg) hd hd2 (fun t x => by rw [List.append_assoc]; exact hgz _ x) hf
      obtain ⟨B, hB⟩ : ∃ B, B = keepB p d.vals d.live := ⟨_, rfl⟩
      rw [← hB] at kk ⊢
      refine ⟨[.row 2 [domV d], .row 2 [domV ⟨d.vals, B⟩], .row 2 [zD], .row 2 [domV d], .row 2 [domV ⟨d.vals, B⟩], .row 2 [domV ⟨d.vals, B⟩]], ?_⟩
      rw [acw_hm (CT T_dom_asked_dom_Dom) rfl]
      simp at kk
      simp [runW_fin, F_dom_asked_dom_Dom, i_dom_asked_dom_Dom, k1, kk]
    obtain ⟨t, ka⟩ := ka (h ++ [.row 2 [domV d], .row 1 [.fn (.func f) [] cap], .row 2 [zD]]) (by simp) (fun t x => by rw [List.append_assoc]; exact hz _ x)
    obtain ⟨B, hB⟩ : ∃ B, B = keepB p d.vals d.live := ⟨_, rfl⟩
    rw [← hB] at ka ⊢
    refine ⟨[.row 2 [domV d], .row 1 [.fn (.func f) [] cap], .row 2 [domV ⟨d.vals, B⟩]] ++ t, ?_⟩
    rw [acw_hm (CT T_dom_kept) rfl]
    simp at ka
    simp [runW_fin, F_dom_kept, i_dom_kept, ka]
  | false =>
    rw [hm] at k1
    rw [if_neg (by simp)]
    have ka : ∀ g, acw C n_dom_asked_dom_Dom [domV d, .fn (.func n_dom_kept_1) [] [.ptr (h.length + 1) 0 0 1]] g = some (.ret zD, g ++ [.row 2 [domV d], .row 2 [zD], .row 2 [zD]]) := by
      intro g
      rw [acw_hm (CT T_dom_asked_dom_Dom) rfl]
      simp [runW_fin, F_dom_asked_dom_Dom, i_dom_asked_dom_Dom, k1]
    refine ⟨[.row 2 [domV d], .row 1 [.fn (.func f) [] cap], .row 2 [zD], .row 2 [domV d], .row 2 [zD], .row 2 [zD]], ?_⟩
    rw [acw_hm (CT T_dom_kept) rfl]
    simp [runW_fin, F_dom_kept, i_dom_kept, ka]
theorem only_1 (x v : Int) (h : List Ob) : acw C n_dom_Only_1 [iv x, .pin (iv v) 0] h = some (.ret (.bool (x == v)), h) := by
  refine acw_ex (v := .bool (x == v)) (CT T_dom_Only_1) rfl rfl (fun _ => rfl) (by simp) ?_
  simp [runW_fin, F_dom_Only_1, i_dom_Only_1]
theorem less_1 (x v : Int) (h : List Ob) : acw C n_dom_Less_1 [iv x, .pin (iv v) 0] h = some (.ret (.bool (x != v)), h) := by
  refine acw_ex (v := .bool (x != v)) (CT T_dom_Less_1) rfl rfl (fun _ => rfl) (by simp) ?_
  simp [runW_fin, F_dom_Less_1, i_dom_Less_1]
def btw (a b x : Int) : Bool := decide (a ≤ x) && decide (x ≤ b)
theorem between_1 (x a b : Int) (h : List Ob) : acw C n_dom_Between_1 [iv x, .pin (iv a) 0, .pin (iv b) 0] h = some (.ret (.bool (btw a b x)), h) := by
  refine acw_ex (v := .bool (btw a b x)) (CT T_dom_Between_1) rfl rfl (fun _ => rfl) (by simp) ?_
  unfold btw
  by_cases c : a ≤ x
  · simp [runW_fin, F_dom_Between_1, i_dom_Between_1, c]
  · simp [runW_fin, F_dom_Between_1, i_dom_Between_1, c]
theorem dom_Only (d : Dm) (v : Int) (hv : d.live < 18446744073709551616) (hn : d.vals.length ≤ 1000000) (h : List Ob) : acw C n_dom_Only [domV d, iv v] h = some (.ret (domV (keptD (fun x => x == v) d)), h) := by
  obtain ⟨t, k⟩ := kept d (fun x => x == v) n_dom_Only_1 [.ptr 1 0 0 1] [.pin (iv v) 0] [.row 2 [domV d], .row 1 [iv v], .row 2 [zD]] hv hn rfl rfl (fun t x => rfl) (fun x => only_1 x v [])
  have hf := keptV_frz (fun x => x == v) d
  obtain ⟨a, b, e, e1, e2⟩ := keptV_agg (fun x => x == v) d
  rw [e] at k hf
  simp at k
  refine acw_pure (a2 := [domV d, iv v]) (h' := [.row 2 [domV d], .row 1 [iv v], .row 2 [.agg [a, .int .u64 b]]] ++ t) (v := .agg [a, .int .u64 b]) (CT T_dom_Only) rfl rfl ?_ (hf _) (by simp [dataL, V.data])
  simp [runW_fin, F_dom_Only, i_dom_Only, k, e1]
theorem dom_Less (d : Dm) (v : Int) (hv : d.live < 18446744073709551616) (hn : d.vals.length ≤ 1000000) (h : List Ob) : acw C n_dom_Less [domV d, iv v] h = some (.ret (domV (keptD (fun x => x != v) d)), h) := by
  obtain ⟨t, k⟩ := kept d (fun x => x != v) n_dom_Less_1 [.ptr 1 0 0 1] [.pin (iv v) 0] [.row 2 [domV d], .row 1 [iv v], .row 2 [zD]] hv hn rfl rfl (fun t x => rfl) (fun x => less_1 x v [])
  have hf := keptV_frz (fun x => x != v) d
  obtain ⟨a, b, e, e1, e2⟩ := keptV_agg (fun x => x != v) d
  rw [e] at k hf
  simp at k
  refine acw_pure (a2 := [domV d, iv v]) (h' := [.row 2 [domV d], .row 1 [iv v], .row 2 [.agg [a, .int .u64 b]]] ++ t) (v := .agg [a, .int .u64 b]) (CT T_dom_Less) rfl rfl ?_ (hf _) (by simp [dataL, V.data])
  simp [runW_fin, F_dom_Less, i_dom_Less, k, e1]
theorem dom_Between (d : Dm) (lo hi : Int) (hv : d.live < 18446744073709551616) (hn : d.vals.length ≤ 1000000) (h : List Ob) : acw C n_dom_Between [domV d, iv lo, iv hi] h = some (.ret (domV (keptD (btw lo hi) d)), h) := by
  obtain ⟨t, k⟩ := kept d (btw lo hi) n_dom_Between_1 [.ptr 1 0 0 1, .ptr 2 0 0 1] [.pin (iv lo) 0, .pin (iv hi) 0] [.row 2 [domV d], .row 1 [iv lo], .row 1 [iv hi], .row 2 [zD]] hv hn rfl rfl (fun t x => rfl) (fun x => between_1 x lo hi [])
  have hf := keptV_frz (btw lo hi) d
  obtain ⟨a, b, e, e1, e2⟩ := keptV_agg (btw lo hi) d
  rw [e] at k hf
  simp at k
  refine acw_pure (a2 := [domV d, iv lo, iv hi]) (h' := [.row 2 [domV d], .row 1 [iv lo], .row 1 [iv hi], .row 2 [.agg [a, .int .u64 b]]] ++ t) (v := .agg [a, .int .u64 b]) (CT T_dom_Between) rfl rfl ?_ (hf _) (by simp [dataL, V.data])
  simp [runW_fin, F_dom_Between, i_dom_Between, k, e1]
end Go.RR.M
set_option linter.unusedVariables false
set_option linter.unusedSimpArgs false
set_option maxRecDepth 100000
set_option maxHeartbeats 4000000
namespace Go.RR
theorem st_bit {h : List Ob} {id m : Nat} {L L' : List Bool} {b : Bool} (e : h[id]? = some (.row 64 [.agg (L.map V.bool)])) (hm : m < L.length) (hL : L.set m b = L') : stV h 1 (.ptr id 0 m 1) (.bool b) = some (.und, some (id, .row 64 [.agg (L'.map V.bool)])) := by
  subst hL
  have e1 : rowOf h id 1 = some (64, [.agg (L.map V.bool)]) := by simp [rowOf, e]
  have hs : (L.map V.bool).take m ++ V.bool b :: (L.map V.bool).drop (m + 1) = (L.set m b).map V.bool := by
    rw [List.set_eq_take_append_cons_drop, if_pos hm]
    simp [List.map_take, List.map_drop]
  have hm' : m + 1 ≤ L.length := by omega
  rw [v_st rfl rfl, e1]
  simp [hm', hs]
theorem valB_drop {bs : List Bool} {m : Nat} (h : m < bs.length) : valB (bs.drop m) = bs[m].toNat + 2 * valB (bs.drop (m + 1)) := by
  rw [List.drop_eq_getElem_cons h]; rfl
theorem set_mid {α : Type} (pre : List α) (c b : α) (r : List α) : (pre ++ c :: r).set pre.length b = pre ++ b :: r := by
  rw [List.set_append_right _ _ (Nat.le_refl _), Nat.sub_self]
  rfl
theorem valB_append : ∀ (a b : List Bool), valB (a ++ b) = valB a + 2 ^ a.length * valB b
  | [], b => by simp [valB]
  | x :: r, b => by
    rw [List.cons_append, valB, valB_append r b, valB, List.length_cons, Nat.pow_succ, Nat.mul_add, Nat.mul_comm (2 ^ r.length) 2, Nat.mul_assoc]
    omega
theorem valB_true : ∀ n, valB (List.replicate n true) = 2 ^ n - 1
  | 0 => rfl
  | n + 1 => by
    have := valB_true n
    have := Nat.two_pow_pos n
    rw [List.replicate_succ, valB, Nat.pow_succ]
    simp
    omega
end Go.RR
namespace Go.RR.M
open Go Go.RR
theorem set_loop (bs : List Bool) (hb : bs.length = 64) : ∀ (m : Nat) (k : Int), m ≤ 64 → k = m - 1 →
    evw C y0 i_ref02_Set_l0 [(1, .ptr 0 0 0 1), (3, uv (valB (bs.drop m))), (4, iv k)] [.row 64 [.agg (bs.map V.bool)]] = some (.ext 0, [(1, .ptr 0 0 0 1), (3, uv (valB bs)), (4, iv (-1)), (6, .bool false)], [.row 64 [.agg (bs.map V.bool)]])
  | 0, k, hm, e => by
    obtain rfl : k = -1 := by omega
    rw [List.drop_zero, r_ref02_Set_0]
    simp [b_ref02_Set_0]
  | m + 1, k, hm, e => by
    obtain rfl : k = m := by omega
    have hlt : m < bs.length := by omega
    have hlt' : (m : Int) < 64 := by omega
    have ih := set_loop bs hb m (m - 1) (by omega) rfl
    rw [valB_drop hlt] at ih
    have hv := valB_lt (bs.drop (m + 1))
    rw [List.length_drop, hb] at hv
    have hp : 2 ^ (64 - (m + 1)) ≤ 2 ^ 63 := Nat.pow_le_pow_right (by omega) (by omega)
    obtain ⟨X, hX⟩ : ∃ X, X = valB (bs.drop (m + 1)) := ⟨_, rfl⟩
    rw [← hX] at ih hv ⊢
    have w1 : IntKind.u64.wrap (2 * (X : Int)) = ((2 * X : Nat) : Int) := by rw [wrapU (by omega) (by omega)]; omega
    have w2 : IntKind.i64.wrap ((m : Int) - 1) = (m : Int) - 1 := wrap64 (by omega) (by omega)
    have h3 : bs[m]? = some bs[m] := by simp [hlt]
    obtain ⟨Y, hY⟩ : ∃ Y, Y = 2 * X := ⟨_, rfl⟩
    rw [← hY] at w1
    cases hc : bs[m] with
    | true =>
      have w3 : IntKind.u64.wrap ((Y : Int) + 1) = ((Y + 1 : Nat) : Int) := by rw [wrapU (by omega) (by omega)]; omega
      rw [hc] at ih h3
      rw [← hY, show Bool.toNat true + Y = Y + 1 by simp; omega] at ih
      obtain ⟨Z, hZ⟩ : ∃ Z, Z = Y + 1 := ⟨_, rfl⟩
      rw [← hZ] at ih w3
      rw [r_ref02_Set_0, ← ih]
      simp [b_ref02_Set_0, w1, w2, w3, hc, hlt', hlt]
    | false =>
      rw [hc] at ih h3
      rw [← hY, show Bool.toNat false + Y = Y by simp] at ih
      rw [r_ref02_Set_0, ← ih]
      simp [b_ref02_Set_0, w1, w2, hc, hlt', hlt]
theorem ref02_set (bs : List Bool) (hb : bs.length = 64) (h : List Ob) : acw C n_ref02_Set [.agg (bs.map V.bool)] h = some (.ret (uv (valB bs)), h) := by
  have lp := set_loop bs hb 64 63 (Nat.le_refl _) rfl
  rw [List.drop_of_length_le (by omega)] at lp
  obtain ⟨B, hB⟩ : ∃ B, B = valB bs := ⟨_, rfl⟩
  rw [← hB] at lp ⊢
  simp only [valB, uv, Int.cast_ofNat_Int] at lp
  have hz : ∀ g n, frz g (n + 2) (.agg (bs.map V.bool)) = some (.agg (bs.map V.bool)) := fun g n => by
    simp only [frz]
    rw [mapO_id fun x hx => by obtain ⟨b, -, rfl⟩ := List.mem_map.1 hx; rfl]
    rfl
  have hd : dataL [V.agg (bs.map V.bool)] = true := by
    simp only [dataL, V.data, Bool.and_true]
    exact dataL_all fun x hx => by obtain ⟨b, -, rfl⟩ := List.mem_map.1 hx; rfl
  have hne : bs ≠ [] := by intro e; rw [e] at hb; simp at hb
  obtain ⟨b0, br, hbr⟩ := List.exists_cons_of_ne_nil hne
  refine acw_pure (a2 := [.agg (bs.map V.bool)]) (h' := [.row 64 [.agg (bs.map V.bool)]]) (v := uv B) (CT T_ref02_Set) rfl ?_ ?_ rfl (by rw [hd]; rfl)
  · show mapO (frz h (10 + 2)) _ = _
    simp only [mapO, hz]
  · have hbox : ∀ g d r fr, get fr 0 = .agg (bs.map V.bool) → evIns (crw C y0) (⟨some d, none, .box (.t 0)⟩ :: r) fr g = evIns (crw C y0) r ((d, .ptr g.length 0 0 1) :: fr) (g ++ [.row 64 [.agg (bs.map V.bool)]]) := by
      intro g d r fr hg
      subst hbr
      simp [hg]
      simp at hb
      rw [hb]
    simp [runW_fin, F_ref02_Set, i_ref02_Set, hbox, lp]
theorem two_between (n : Nat) (h1 : 1 ≤ n) (h64 : n ≤ 64) : ∀ (m i : Nat) (pre : List Bool), i + m = 64 → pre.length = i →
    evw C y0 i_ref02_Between_l0 [(0, iv 0), (1, iv (n - 1)), (5, .ptr 0 0 0 1), (6, iv i)] [.row 64 [.agg ((pre ++ List.replicate m false).map V.bool)]] = some (.ext 0, [(0, iv 0), (1, iv (n - 1)), (5, .ptr 0 0 0 1), (6, iv 64), (9, .bool false)], [.row 64 [.agg ((pre ++ (List.replicate (n - i) true).take m ++ List.replicate (m - (n - i)) false).map V.bool)]])
  | 0, i, pre, e, hp => by
    obtain rfl : i = 64 := by omega
    rw [r_ref02_Between_0]
    simp [b_ref02_Between_0]
  | m + 1, i, pre, e, hp => by
    have hlt : (i : Int) < 64 := by omega
    have hlt' : i < 64 := by omega
    have hw : IntKind.i64.wrap ((i : Int) + 1) = i + 1 := wrap64 (by omega) (by omega)
    by_cases c : i < n
    · have ih := two_between n h1 h64 m (i + 1) (pre ++ [true]) (by omega) (by simp [hp])
      have c' : (i : Int) ≤ n - 1 := by omega
      have hst := st_bit (h := [.row 64 [.agg ((pre ++ List.replicate (m + 1) false).map V.bool)]]) (id := 0) (m := i) (b := true) (L' := pre ++ [true] ++ List.replicate m false) rfl (by simp; omega) (by rw [List.replicate_succ, ← hp, set_mid]; simp)
      have e1 : pre ++ (List.replicate (n - i) true).take (m + 1) ++ List.replicate (m + 1 - (n - i)) false = pre ++ [true] ++ (List.replicate (n - (i + 1)) true).take m ++ List.replicate (m - (n - (i + 1))) false := by
        rw [show n - i = (n - (i + 1)) + 1 by omega, List.replicate_succ, List.take_succ_cons, show m + 1 - (n - (i + 1) + 1) = m - (n - (i + 1)) by omega]
        simp
      rw [e1]
      obtain ⟨P, hP⟩ : ∃ P, P = pre ++ List.replicate (m + 1) false := ⟨_, rfl⟩
      obtain ⟨Q, hQ⟩ : ∃ Q, Q = pre ++ [true] ++ List.replicate m false := ⟨_, rfl⟩
      obtain ⟨R, hR⟩ : ∃ R, R = pre ++ [true] ++ (List.replicate (n - (i + 1)) true).take m ++ List.replicate (m - (n - (i + 1))) false := ⟨_, rfl⟩
      rw [← hQ, ← hR] at ih
      rw [← hP, ← hQ] at hst
      rw [← hP, ← hR]
      simp only [Int.natCast_add, Int.cast_ofNat_Int] at ih
      rw [r_ref02_Between_0, ← ih]
      simp [b_ref02_Between_0, hlt, hlt', hw, c', hst]
    · have ih := two_between n h1 h64 m (i + 1) (pre ++ [false]) (by omega) (by simp [hp])
      have c' : ¬ (i : Int) ≤ n - 1 := by omega
      have hst := st_bit (h := [.row 64 [.agg ((pre ++ List.replicate (m + 1) false).map V.bool)]]) (id := 0) (m := i) (b := false) (L' := pre ++ [false] ++ List.replicate m false) rfl (by simp; omega) (by rw [List.replicate_succ, ← hp, set_mid]; simp)
      have e1 : pre ++ (List.replicate (n - i) true).take (m + 1) ++ List.replicate (m + 1 - (n - i)) false = pre ++ [false] ++ (List.replicate (n - (i + 1)) true).take m ++ List.replicate (m - (n - (i + 1))) false := by
        rw [show n - i = 0 by omega, show n - (i + 1) = 0 by omega]
        simp [List.replicate_succ]
      rw [e1]
      obtain ⟨P, hP⟩ : ∃ P, P = pre ++ List.replicate (m + 1) false := ⟨_, rfl⟩
      obtain ⟨Q, hQ⟩ : ∃ Q, Q = pre ++ [false] ++ List.replicate m false := ⟨_, rfl⟩
      obtain ⟨R, hR⟩ : ∃ R, R = pre ++ [false] ++ (List.replicate (n - (i + 1)) true).take m ++ List.replicate (m - (n - (i + 1))) false := ⟨_, rfl⟩
      rw [← hQ, ← hR] at ih
      rw [← hP, ← hQ] at hst
      rw [← hP, ← hR]
      simp only [Int.natCast_add, Int.cast_ofNat_Int] at ih
      rw [r_ref02_Between_0, ← ih]
      simp [b_ref02_Between_0, hlt, hlt', hw, c', hst]
theorem ref02_between (n : Nat) (h1 : 1 ≤ n) (h64 : n ≤ 64) (h : List Ob) : acw C n_ref02_Between [iv 0, iv (n - 1)] h = some (.ret (uv (2 ^ n - 1)), h) := by
  have lp := two_between n h1 h64 64 0 [] rfl rfl
  have e1 : ([] ++ (List.replicate (n - 0) true).take 64 ++ List.replicate (64 - (n - 0)) false : List Bool) = List.replicate n true ++ List.replicate (64 - n) false := by
    rw [List.nil_append, Nat.sub_zero, List.take_of_length_le (by simp; omega)]
  rw [e1, List.nil_append] at lp
  have ks := ref02_set (List.replicate n true ++ List.replicate (64 - n) false) (by simp; omega)
  rw [valB_append, valB_true, valB_false, Nat.mul_zero, Nat.add_zero] at ks
  obtain ⟨R, hR⟩ : ∃ R, R = List.replicate n true ++ List.replicate (64 - n) false := ⟨_, rfl⟩
  have hRl : R.length = 64 := by rw [hR]; simp; omega
  obtain ⟨Q, hQ⟩ : ∃ Q, Q = 2 ^ n - 1 := ⟨_, rfl⟩
  rw [← hR] at lp ks
  rw [← hQ] at ks ⊢
  refine acw_ex (v := uv Q) (CT T_ref02_Between) rfl rfl (fun _ => rfl) (by simp) ?_
  simp [List.replicate_succ] at lp
  have ht : (R.map V.bool).take 64 = R.map V.bool := List.take_of_length_le (by simp; omega)
  simp [runW_fin, F_ref02_Between, i_ref02_Between, lp, ks, hRl, ht]
end Go.RR.M
set_option linter.unusedVariables false
set_option linter.unusedSimpArgs false
set_option maxRecDepth 100000
set_option maxHeartbeats 4000000
namespace Go.RR
theorem tmod2 (n : Nat) : (n : Int).tmod 2 = ((n % 2 : Nat) : Int) := by
  simp [Int.tmod]
theorem tdiv2 (n : Nat) : (n : Int).tdiv 2 = ((n / 2 : Nat) : Int) := by
  simp [Int.tdiv]
end Go.RR
namespace Go.RR.M
open Go Go.RR
theorem rlist_loop (d : Dm) (hn : d.vals.length ≤ 64) : ∀ (m i left : Nat) (acc : List Int), i + m = d.vals.length → acc.length ≤ i → left < 18446744073709551616 → ∃ L',
    evw C y0 i_ref04_List_l0 [(1, .ptr 0 0 0 1), (3, .own 1 0 acc.length acc.length), (4, uv left), (5, iv i)] [.row 2 [domV d], .row 1 (acc.map (V.int .i64))] =
      some (.ext 0, [(1, .ptr 0 0 0 1), (3, .own 1 0 (acc ++ leftR (d.vals.drop i) left).length (acc ++ leftR (d.vals.drop i) left).length), (4, uv L'), (5, iv d.vals.length), (17, .bool false)], [.row 2 [domV d], .row 1 ((acc ++ leftR (d.vals.drop i) left).map (V.int .i64))])
  | 0, i, left, acc, e, ha, hl => by
    obtain rfl : i = d.vals.length := by omega
    rw [List.drop_length, r_ref04_List_0]
    refine ⟨left, ?_⟩
    simp [b_ref04_List_0, leftR]
  | m + 1, i, left, acc, e, ha, hl => by
    have hlt : i < d.vals.length := by omega
    have h2 : (i : Int) < d.vals.length := by omega
    have h3 : d.vals[i]? = some d.vals[i] := by simp [hlt]
    have hw := wrap_succ (i := i) (n := d.vals.length) hlt (by omega)
    have ht := tmod2 left
    have hq : IntKind.u64.wrap ((left : Int) / 2) = ((left / 2 : Nat) : Int) := by rw [wrapU (by omega) (by omega)]; omega
    rw [List.drop_eq_getElem_cons hlt, leftR]
    obtain ⟨q, hqe⟩ : ∃ q, q = left / 2 := ⟨_, rfl⟩
    rw [← hqe] at hq ⊢
    by_cases c : left % 2 = 1
    · rw [if_pos c]
      rw [c] at ht
      obtain ⟨L', ih⟩ := rlist_loop d hn m (i + 1) q (acc ++ [d.vals[i]]) (by omega) (by simp; omega) (by omega)
      have k4 : bsfL (.int .i64 0) [iv d.vals[i]] = some (.sl 1 [iv d.vals[i]]) := rfl
      have k5 : ∀ nid, appV nid [.row 2 [domV d], .row 1 (acc.map (V.int .i64))] 1 8 (.own 1 0 acc.length acc.length) (.sl 1 [iv d.vals[i]]) = some (.own 1 0 (acc.length + 1) (acc.length + 1), some (1, .row 1 (acc.map (V.int .i64) ++ [iv d.vals[i]]))) := fun nid => appV_own rfl (by simp) rfl (by simp) (by simp) (by omega) (by omega)
      refine ⟨L', ?_⟩
      rw [List.append_cons]
      simp only [Int.natCast_add, Int.cast_ofNat_Int] at ih ht
      rw [r_ref04_List_0, ← ih]
      simp [b_ref04_List_0, h2, h3, ht, hq, k4, k5, hw, ieq]
    · rw [if_neg c]
      rw [show left % 2 = 0 by omega] at ht
      obtain ⟨L', ih⟩ := rlist_loop d hn m (i + 1) q acc (by omega) (by omega) (by omega)
      refine ⟨L', ?_⟩
      simp only [Int.natCast_add, Int.cast_ofNat_Int] at ih ht
      rw [r_ref04_List_0, ← ih]
      simp [b_ref04_List_0, h2, h3, ht, hq, hw, ieq]
theorem ref04_List (d : Dm) (hd : d.live < 18446744073709551616) (hn : d.vals.length ≤ 1000000) (h : List Ob) : acw C n_ref04_List [domV d] h = some (.ret (intsV (listD d)), h) := by
  have k1 := ref04_May d hd hn
  unfold listD
  cases hm : mayD d with
  | false =>
    rw [hm] at k1
    rw [if_neg (by simp)]
    refine acw_pure (a2 := [domV d]) (h' := [.row 2 [domV d], .row 1 []]) (v := .own 1 0 0 0) (CT T_ref04_List) rfl rfl ?_ rfl (by simp)
    simp [runW_fin, F_ref04_List, i_ref04_List, k1]
  | true =>
    obtain ⟨h1, h2, -⟩ := mayD_iff.1 hm
    rw [hm] at k1
    rw [if_pos rfl]
    obtain ⟨L', lp⟩ := rlist_loop d h1 d.vals.length 0 d.live [] (by omega) (by simp) hd
    rw [List.drop_zero, List.nil_append] at lp
    obtain ⟨R, hR⟩ : ∃ R, R = leftR d.vals d.live := ⟨_, rfl⟩
    rw [← hR] at lp ⊢
    simp only [List.length_nil, List.map_nil, Int.cast_ofNat_Int] at lp
    refine acw_pure (a2 := [domV d]) (h' := [.row 2 [domV d], .row 1 (R.map (V.int .i64))]) (v := .own 1 0 R.length R.length) (CT T_ref04_List) rfl rfl ?_ (frz_own_ints rfl rfl 10) (by simp)
    simp [runW_fin, F_ref04_List, i_ref04_List, k1, lp]
theorem rbtw_loop (l : List Int) (a b : Int) (hn : l.length ≤ 1000000) : ∀ (m i : Nat) (acc : List Int), i + m = l.length → acc.length ≤ i →
    evw C y0 i_ref04_Between_l0 [(0, intsV l), (1, iv a), (2, iv b), (7, .own 0 0 acc.length acc.length), (8, iv i)] [.row 1 (acc.map (V.int .i64))] =
      some (.ext 0, [(0, intsV l), (1, iv a), (2, iv b), (7, .own 0 0 (acc ++ (l.drop i).filter (btw a b)).length (acc ++ (l.drop i).filter (btw a b)).length), (8, iv l.length), (13, .bool false)], [.row 1 ((acc ++ (l.drop i).filter (btw a b)).map (V.int .i64))])
  | 0, i, acc, e, ha => by
    obtain rfl : i = l.length := by omega
    rw [List.drop_length, r_ref04_Between_0]
    simp [b_ref04_Between_0]
  | m + 1, i, acc, e, ha => by
    have hlt : i < l.length := by omega
    have h2 : (i : Int) < l.length := by omega
    have h3 : l[i]? = some l[i] := by simp [hlt]
    have hw := wrap_succ (i := i) (n := l.length) hlt (by omega)
    rw [List.drop_eq_getElem_cons hlt, List.filter_cons]
    have no : btw a b l[i] = false → evw C y0 i_ref04_Between_l0 [(0, intsV l), (1, iv a), (2, iv b), (7, .own 0 0 (acc ++ (l.drop (i + 1)).filter (btw a b)).length (acc ++ (l.drop (i + 1)).filter (btw a b)).length), (8, iv l.length), (13, .bool false)] [] = none → True := fun _ _ => trivial
    cases c : btw a b l[i] with
    | true =>
      have c2 : a ≤ l[i] ∧ l[i] ≤ b := by unfold btw at c; simpa using c
      have ih := rbtw_loop l a b hn m (i + 1) (acc ++ [l[i]]) (by omega) (by simp; omega)
      have k4 : bsfL (.int .i64 0) [iv l[i]] = some (.sl 1 [iv l[i]]) := rfl
      have k5 : ∀ nid, appV nid [.row 1 (acc.map (V.int .i64))] 1 8 (.own 0 0 acc.length acc.length) (.sl 1 [iv l[i]]) = some (.own 0 0 (acc.length + 1) (acc.length + 1), some (0, .row 1 (acc.map (V.int .i64) ++ [iv l[i]]))) := fun nid => appV_own rfl (by simp) rfl (by simp) (by simp) (by omega) (by omega)
      rw [if_pos rfl, List.append_cons]
      simp only [Int.natCast_add, Int.cast_ofNat_Int] at ih
      rw [r_ref04_Between_0, ← ih]
      simp [b_ref04_Between_0, h2, h3, c2.1, c2.2, k4, k5, hw]
    | false =>
      have ih := rbtw_loop l a b hn m (i + 1) acc (by omega) (by omega)
      rw [if_neg (by simp)]
      simp only [Int.natCast_add, Int.cast_ofNat_Int] at ih
      rw [r_ref04_Between_0, ← ih]
      by_cases c1 : a ≤ l[i]
      · have c2 : ¬ l[i] ≤ b := fun h => by unfold btw at c; simp [c1, h] at c
        simp [b_ref04_Between_0, h2, h3, c1, c2, hw]
      · simp [b_ref04_Between_0, h2, h3, c1, hw]
theorem ref04_Between (l : List Int) (a b : Int) (hn : l.length ≤ 1000000) (h : List Ob) : acw C n_ref04_Between [intsV l, iv a, iv b] h = some (.ret (intsV (l.filter (btw a b))), h) := by
  have lp := rbtw_loop l a b hn l.length 0 [] (by omega) (by simp)
  rw [List.drop_zero, List.nil_append] at lp
  obtain ⟨R, hR⟩ : ∃ R, R = l.filter (btw a b) := ⟨_, rfl⟩
  rw [← hR] at lp ⊢
  simp only [List.length_nil, List.map_nil, Int.cast_ofNat_Int] at lp
  refine acw_pure (a2 := [intsV l, iv a, iv b]) (h' := [.row 1 (R.map (V.int .i64))]) (v := .own 0 0 R.length R.length) (CT T_ref04_Between) rfl rfl ?_ (frz_own_ints rfl rfl 10) (by simp)
  simp [runW_fin, F_ref04_Between, i_ref04_Between, lp]
theorem rless_loop (l : List Int) (v : Int) (hn : l.length ≤ 1000000) : ∀ (m i : Nat) (acc : List Int), i + m = l.length → acc.length ≤ i →
    evw C y0 i_ref04_Less_l0 [(0, intsV l), (1, iv v), (5, .own 0 0 acc.length acc.length), (6, iv i)] [.row 1 (acc.map (V.int .i64))] =
      some (.ext 0, [(0, intsV l), (1, iv v), (5, .own 0 0 (acc ++ (l.drop i).filter (fun x => x != v)).length (acc ++ (l.drop i).filter (fun x => x != v)).length), (6, iv l.length), (11, .bool false)], [.row 1 ((acc ++ (l.drop i).filter (fun x => x != v)).map (V.int .i64))])
  | 0, i, acc, e, ha => by
    obtain rfl : i = l.length := by omega
    rw [List.drop_length, r_ref04_Less_0]
    simp [b_ref04_Less_0]
  | m + 1, i, acc, e, ha => by
    have hlt : i < l.length := by omega
    have h2 : (i : Int) < l.length := by omega
    have h3 : l[i]? = some l[i] := by simp [hlt]
    have hw := wrap_succ (i := i) (n := l.length) hlt (by omega)
    rw [List.drop_eq_getElem_cons hlt, List.filter_cons]
    by_cases c : l[i] = v
    · have ih := rless_loop l v hn m (i + 1) acc (by omega) (by omega)
      rw [if_neg (by simp [c])]
      obtain ⟨R, hR⟩ : ∃ R, R = acc ++ (l.drop (i + 1)).filter (fun x => x != v) := ⟨_, rfl⟩
      rw [← hR] at ih ⊢
      simp only [Int.natCast_add, Int.cast_ofNat_Int] at ih
      rw [r_ref04_Less_0, ← ih]
      simp [b_ref04_Less_0, h2, h3, c, hw, ine]
    · have ih := rless_loop l v hn m (i + 1) (acc ++ [l[i]]) (by omega) (by simp; omega)
      have k4 : bsfL (.int .i64 0) [iv l[i]] = some (.sl 1 [iv l[i]]) := rfl
      have k5 : ∀ nid, appV nid [.row 1 (acc.map (V.int .i64))] 1 8 (.own 0 0 acc.length acc.length) (.sl 1 [iv l[i]]) = some (.own 0 0 (acc.length + 1) (acc.length + 1), some (0, .row 1 (acc.map (V.int .i64) ++ [iv l[i]]))) := fun nid => appV_own rfl (by simp) rfl (by simp) (by simp) (by omega) (by omega)
      rw [if_pos (by simp [c]), List.append_cons]
      obtain ⟨R, hR⟩ : ∃ R, R = acc ++ [l[i]] ++ (l.drop (i + 1)).filter (fun x => x != v) := ⟨_, rfl⟩
      rw [← hR] at ih ⊢
      simp only [Int.natCast_add, Int.cast_ofNat_Int] at ih
      rw [r_ref04_Less_0, ← ih]
      simp [b_ref04_Less_0, h2, h3, c, k4, k5, hw, ine]
theorem ref04_Less (l : List Int) (v : Int) (hn : l.length ≤ 1000000) (h : List Ob) : acw C n_ref04_Less [intsV l, iv v] h = some (.ret (intsV (l.filter fun x => x != v)), h) := by
  have lp := rless_loop l v hn l.length 0 [] (by omega) (by simp)
  rw [List.drop_zero, List.nil_append] at lp
  obtain ⟨R, hR⟩ : ∃ R, R = l.filter (fun x => x != v) := ⟨_, rfl⟩
  rw [← hR] at lp ⊢
  simp only [List.length_nil, List.map_nil, Int.cast_ofNat_Int] at lp
  refine acw_pure (a2 := [intsV l, iv v]) (h' := [.row 1 (R.map (V.int .i64))]) (v := .own 0 0 R.length R.length) (CT T_ref04_Less) rfl rfl ?_ (frz_own_ints rfl rfl 10) (by simp)
  simp [runW_fin, F_ref04_Less, i_ref04_Less, lp]
end Go.RR.M
set_option linter.unusedVariables false
set_option linter.unusedSimpArgs false
set_option maxRecDepth 100000
set_option maxHeartbeats 4000000
namespace Go.RR.M
open Go Go.RR
abbrev gR (d : Dm) (L : List Bool) : List Ob := [.row 2 [domV d], .row 2 [zD], .row 64 [.agg (L.map V.bool)]]
theorem rkeep_in (d : Dm) (l : List Int) (hn : l.length ≤ 1000000) (i left n : Nat) (hi : i < d.vals.length) (pre : List Bool) (hp : pre.length = i) (hn64 : pre.length + 1 + n = 64) : ∀ (m k : Nat) (c : Bool), k + m = l.length →
    evw C y0 i_ref04_Keep_l0 [(1, intsV l), (2, .ptr 0 0 0 1), (4, .ptr 1 0 0 1), (5, .ptr 2 0 0 1), (6, uv left), (7, iv i), (8, iv k)] (gR d (pre ++ c :: List.replicate n false)) =
      some (.ext 2, [(1, intsV l), (2, .ptr 0 0 0 1), (4, .ptr 1 0 0 1), (5, .ptr 2 0 0 1), (6, uv left), (7, iv i), (8, iv l.length), (26, .bool false)], gR d (pre ++ (c || (left % 2 == 1 && (l.drop k).any (fun x => x == d.vals[i]))) :: List.replicate n false))
  | 0, k, c, e => by
    obtain rfl : k = l.length := by omega
    rw [List.drop_length, r_ref04_Keep_0]
    simp [b_ref04_Keep_0]
  | m + 1, k, c, e => by
    have hlt : k < l.length := by omega
    have h2 : (k : Int) < l.length := by omega
    have h3 : l[k]? = some l[k] := by simp [hlt]
    have h4 : d.vals[i]? = some d.vals[i] := by simp [hi]
    have hw := wrap_succ (i := k) (n := l.length) hlt (by omega)
    have ht := tmod2 left
    have hi64 : (i : Int) < 64 := by omega
    rw [List.drop_eq_getElem_cons hlt, List.any_cons]
    by_cases c1 : l[k] = d.vals[i]
    · by_cases c2 : left % 2 = 1
      · rw [c2] at ht
        have ih := rkeep_in d l hn i left n hi pre hp hn64 m (k + 1) true (by omega)
        have e1 : (c || (left % 2 == 1 && (l[k] == d.vals[i] || (l.drop (k + 1)).any (fun x => x == d.vals[i])))) = (true || (left % 2 == 1 && (l.drop (k + 1)).any (fun x => x == d.vals[i]))) := by simp [c1, c2]
        rw [e1]
        have hst := st_bit (h := gR d (pre ++ c :: List.replicate n false)) (id := 2) (m := i) (b := true) (L' := pre ++ true :: List.replicate n false) rfl (by simp; omega) (by rw [← hp, set_mid])
        obtain ⟨P, hP⟩ : ∃ P, P = pre ++ c :: List.replicate n false := ⟨_, rfl⟩
        obtain ⟨Q, hQ⟩ : ∃ Q, Q = pre ++ true :: List.replicate n false := ⟨_, rfl⟩
        obtain ⟨R, hR⟩ : ∃ R, R = pre ++ (true || (left % 2 == 1 && (l.drop (k + 1)).any (fun x => x == d.vals[i]))) :: List.replicate n false := ⟨_, rfl⟩
        rw [← hP, ← hQ] at hst
        rw [← hQ, ← hR] at ih
        rw [← hP, ← hR]
        simp only [Int.natCast_add, Int.cast_ofNat_Int] at ih ht
        rw [r_ref04_Keep_0, ← ih]
        simp [b_ref04_Keep_0, h2, h3, h4, c1, ht, hw, hi64, hst, ieq]
      · rw [show left % 2 = 0 by omega] at ht
        have ih := rkeep_in d l hn i left n hi pre hp hn64 m (k + 1) c (by omega)
        have c2' : (left % 2 == 1) = false := by simp; omega
        simp only [c2', Bool.false_and, Bool.or_false] at ih ⊢
        obtain ⟨P, hP⟩ : ∃ P, P = pre ++ c :: List.replicate n false := ⟨_, rfl⟩
        rw [← hP] at ih ⊢
        simp only [Int.natCast_add, Int.cast_ofNat_Int] at ih ht
        rw [r_ref04_Keep_0, ← ih]
        simp [b_ref04_Keep_0, h2, h3, h4, c1, ht, hw, ieq]
    · have ih := rkeep_in d l hn i left n hi pre hp hn64 m (k + 1) c (by omega)
      have e1 : (l[k] == d.vals[i] || (l.drop (k + 1)).any (fun x => x == d.vals[i])) = (l.drop (k + 1)).any (fun x => x == d.vals[i]) := by simp [c1]
      rw [e1]
      obtain ⟨P, hP⟩ : ∃ P, P = pre ++ c :: List.replicate n false := ⟨_, rfl⟩
      obtain ⟨R, hR⟩ : ∃ R, R = pre ++ (c || (left % 2 == 1 && (l.drop (k + 1)).any (fun x => x == d.vals[i]))) :: List.replicate n false := ⟨_, rfl⟩
      rw [← hP, ← hR] at ih
      rw [← hP, ← hR]
      simp only [Int.natCast_add, Int.cast_ofNat_Int] at ih
      rw [r_ref04_Keep_0, ← ih]
      simp [b_ref04_Keep_0, h2, h3, h4, c1, hw, ieq]
theorem rkeep_out (d : Dm) (l : List Int) (hn : l.length ≤ 1000000) (h64 : d.vals.length ≤ 64) : ∀ (m i left : Nat) (pre : List Bool), i + m = d.vals.length → pre.length = i → left < 18446744073709551616 → ∃ L',
    evw C y0 i_ref04_Keep_l1 [(1, intsV l), (2, .ptr 0 0 0 1), (4, .ptr 1 0 0 1), (5, .ptr 2 0 0 1), (6, uv left), (7, iv i)] (gR d (pre ++ List.replicate (64 - i) false)) =
      some (.ext 0, [(1, intsV l), (2, .ptr 0 0 0 1), (4, .ptr 1 0 0 1), (5, .ptr 2 0 0 1), (6, uv L'), (7, iv d.vals.length), (20, .bool false)], gR d (pre ++ keepL (fun v => l.any (fun x => x == v)) (d.vals.drop i) left ++ List.replicate (64 - d.vals.length) false))
  | 0, i, left, pre, e, hp, hl => by
    obtain rfl : i = d.vals.length := by omega
    rw [List.drop_length, r_ref04_Keep_1]
    refine ⟨left, ?_⟩
    simp [b_ref04_Keep_1, keepL]
  | m + 1, i, left, pre, e, hp, hl => by
    have hlt : i < d.vals.length := by omega
    have h2 : (i : Int) < d.vals.length := by omega
    have hw := wrap_succ (i := i) (n := d.vals.length) hlt (by omega)
    have hq : IntKind.u64.wrap ((left : Int) / 2) = ((left / 2 : Nat) : Int) := by rw [wrapU (by omega) (by omega)]; omega
    have lp := rkeep_in d l hn i left (64 - (i + 1)) hlt pre hp (by omega) l.length 0 false (by omega)
    rw [List.drop_zero, Bool.false_or] at lp
    obtain ⟨L', ih⟩ := rkeep_out d l hn h64 m (i + 1) (left / 2) (pre ++ [left % 2 == 1 && l.any (fun x => x == d.vals[i])]) (by omega) (by simp [hp]) (by omega)
    refine ⟨L', ?_⟩
    rw [List.drop_eq_getElem_cons hlt, keepL]
    have e1 : pre ++ List.replicate (64 - i) false = pre ++ false :: List.replicate (64 - (i + 1)) false := by rw [show 64 - i = (64 - (i + 1)) + 1 by omega, List.replicate_succ]
    rw [e1]
    obtain ⟨b, hb⟩ : ∃ b, b = (left % 2 == 1 && l.any (fun x => x == d.vals[i])) := ⟨_, rfl⟩
    rw [← hb] at lp ih ⊢
    have e2 : pre ++ b :: keepL (fun v => l.any (fun x => x == v)) (d.vals.drop (i + 1)) (left / 2) ++ List.replicate (64 - d.vals.length) false = pre ++ [b] ++ keepL (fun v => l.any (fun x => x == v)) (d.vals.drop (i + 1)) (left / 2) ++ List.replicate (64 - d.vals.length) false := by simp
    rw [e2]
    obtain ⟨q, hqe⟩ : ∃ q, q = left / 2 := ⟨_, rfl⟩
    rw [← hqe] at hq ih ⊢
    obtain ⟨P, hP⟩ : ∃ P, P = pre ++ false :: List.replicate (64 - (i + 1)) false := ⟨_, rfl⟩
    obtain ⟨R, hR⟩ : ∃ R, R = pre ++ [b] ++ keepL (fun v => l.any (fun x => x == v)) (d.vals.drop (i + 1)) q ++ List.replicate (64 - d.vals.length) false := ⟨_, rfl⟩
    have e3 : pre ++ [b] ++ List.replicate (64 - (i + 1)) false = pre ++ b :: List.replicate (64 - (i + 1)) false := by simp
    rw [e3] at ih
    obtain ⟨Q, hQ⟩ : ∃ Q, Q = pre ++ b :: List.replicate (64 - (i + 1)) false := ⟨_, rfl⟩
    rw [← hP, ← hQ] at lp
    rw [← hQ, ← hR] at ih
    rw [← hP, ← hR]
    simp only [Int.natCast_add, Int.cast_ofNat_Int] at ih lp
    rw [r_ref04_Keep_1, ← ih]
    simp [b_ref04_Keep_1, h2, lp, hq, hw]
theorem ref04_Keep (d : Dm) (l : List Int) (hd : d.live < 18446744073709551616) (hn : d.vals.length ≤ 1000000) (hl : l.length ≤ 1000000) (h : List Ob) : acw C n_ref04_Keep [domV d, intsV l] h = some (.ret (domV (keptD (fun v => l.any (fun x => x == v)) d)), h) := by
  have k1 := ref04_May d hd hn
  unfold keptD
  cases hm : mayD d with
  | false =>
    rw [hm] at k1
    rw [if_neg (by simp)]
    refine acw_pure (a2 := [domV d, intsV l]) (h' := [.row 2 [domV d], .row 2 [zD]]) (v := zD) (CT T_ref04_Keep) rfl rfl ?_ rfl (by simp)
    simp [runW_fin, F_ref04_Keep, i_ref04_Keep, k1]
  | true =>
    obtain ⟨h1, h2, -⟩ := mayD_iff.1 hm
    rw [hm] at k1
    rw [if_pos rfl]
    obtain ⟨L', lp⟩ := rkeep_out d l hl h1 d.vals.length 0 d.live [] (by omega) rfl hd
    rw [List.drop_zero, List.nil_append, List.nil_append] at lp
    have ks := ref02_set (keepL (fun v => l.any (fun x => x == v)) d.vals d.live ++ List.replicate (64 - d.vals.length) false) (by rw [List.length_append, keepL_len, List.length_replicate]; omega)
    rw [valB_keep] at ks
    have hRl : (keepL (fun v => l.any (fun x => x == v)) d.vals d.live ++ List.replicate (64 - d.vals.length) false).length = 64 := by rw [List.length_append, keepL_len, List.length_replicate]; omega
    obtain ⟨R, hR⟩ : ∃ R, R = keepL (fun v => l.any (fun x => x == v)) d.vals d.live ++ List.replicate (64 - d.vals.length) false := ⟨_, rfl⟩
    obtain ⟨B, hB⟩ : ∃ B, B = keepB (fun v => l.any (fun x => x == v)) d.vals d.live := ⟨_, rfl⟩
    rw [← hR] at lp ks hRl
    rw [← hB] at ks ⊢
    have ht : (R.map V.bool).take 64 = R.map V.bool := List.take_of_length_le (by simp; omega)
    simp [gR, List.replicate_succ] at lp
    have hdR : dataL (R.map V.bool) = true := dataL_all fun x hx => by obtain ⟨b, -, rfl⟩ := List.mem_map.1 hx; rfl
    obtain ⟨W, kA, kW⟩ : ∃ W, (∀ nid, appV nid [.row 2 [domV d], .row 2 [zD], .row 64 [.agg (R.map V.bool)], .row 1 []] 1 8 (.own 3 0 0 0) (intsV d.vals) = some (.own 3 0 d.vals.length d.vals.length, W)) ∧ wr [.row 2 [domV d], .row 2 [zD], .row 64 [.agg (R.map V.bool)], .row 1 []] W = [.row 2 [domV d], .row 2 [zD], .row 64 [.agg (R.map V.bool)], .row 1 (d.vals.map (V.int .i64))] := by
      by_cases e : d.vals = []
      · refine ⟨none, fun nid => ?_, by rw [e]; rfl⟩
        rw [e]
        rfl
      · refine ⟨some (3, .row 1 (d.vals.map (V.int .i64))), fun nid => ?_, rfl⟩
        have := appV_own (nid := nid) (h := [.row 2 [domV d], .row 2 [zD], .row 64 [.agg (R.map V.bool)], .row 1 []]) (id := 3) (z := 1) (b := 8) (n := 0) (m := d.vals.length) (xs := []) (y := intsV d.vals) (ys := d.vals.map (V.int .i64)) rfl rfl rfl (by simpa using e) (by simp) (by omega) (by omega)
        simpa using this
    refine acw_pure (a2 := [domV d, intsV l]) (h' := [.row 2 [domV d], .row 2 [.agg [.own 3 0 d.vals.length d.vals.length, uv B]], .row 64 [.agg (R.map V.bool)], .row 1 (d.vals.map (V.int .i64))]) (v := .agg [.own 3 0 d.vals.length d.vals.length, uv B]) (CT T_ref04_Keep) rfl rfl ?_ ?_ (by simp)
    · simp [runW_fin, F_ref04_Keep, i_ref04_Keep, k1, lp, ks, ht, hRl, kA, kW, hdR]
    · show (mapO (RR.frz _ 11) [.own 3 0 d.vals.length d.vals.length, uv B]).map V.agg = _
      simp only [mapO, frz_own_ints (h := [.row 2 [domV d], .row 2 [.agg [.own 3 0 d.vals.length d.vals.length, uv B]], .row 64 [.agg (R.map V.bool)], .row 1 (d.vals.map (V.int .i64))]) (id := 3) (l := d.vals) rfl rfl 9, show ∀ (g : List Ob) (n : Nat), RR.frz g 11 (uv n) = some (uv n) from fun _ _ => rfl, Option.map_some]
end Go.RR.M
set_option linter.unusedVariables false
set_option linter.unusedSimpArgs false
set_option maxRecDepth 100000
set_option maxHeartbeats 4000000
namespace Go.RR.M
open Go Go.RR
/-- a loop that goes through two lists at once -/
theorem pair_loop {C : Cx} {b : IR} {α : Type} [DecidableEq α] (l m : List α) (hlm : l.length = m.length) (fr : Nat → Fr) (hp : List Ob → Prop) (e : Rs → List Ob → Rs) (fe : Fr) (rs : Fr)
    (he : ∀ h, hp h → evw C y0 b (fr l.length) h = some (.ext 0, fe, h))
    (h1 : ∀ i (hi : i < l.length) (hi' : i < m.length) h, hp h → ∃ h', hp h' ∧ evw C y0 b (fr i) h = some (if l[i] = m[i] then (.nrm, fr (i + 1), h') else (.ret, rs, h'))) :
    ∀ (d i : Nat) (h : List Ob), i + d = l.length → hp h → ∃ h', hp h' ∧ evw C y0 (.loop b) (fr i) h = some (if l.drop i = m.drop i then (.ext 0, fe, h') else (.ret, rs, h')) := by
  intro d
  induction d with
  | zero =>
    intro i h hi hh
    have : i = l.length := by omega
    subst this
    refine ⟨h, hh, ?_⟩
    rw [w_loop, he h hh, List.drop_length, List.drop_eq_nil_of_le (by omega : m.length ≤ l.length)]
    rfl
  | succ d ih =>
    intro i h hi hh
    have hlt : i < l.length := by omega
    have hlt' : i < m.length := by omega
    obtain ⟨h2, g2, e2⟩ := h1 i hlt hlt' h hh
    rw [w_loop, e2, List.drop_eq_getElem_cons hlt, List.drop_eq_getElem_cons hlt']
    by_cases c : l[i] = m[i]
    · obtain ⟨h3, g3, e3⟩ := ih (i + 1) h2 (by omega) g2
      refine ⟨h3, g3, ?_⟩
      simp only [c, if_true, nxt_nrm, e3, List.cons.injEq, true_and]
    · refine ⟨h2, g2, ?_⟩
      simp only [c, if_false, nxt_ret, List.cons.injEq, false_and]
theorem ref02_same (l m : List Int) (hl : l.length ≤ 4611686018427387904) (h : List Ob) : acw C n_ref02_Same [intsV l, intsV m] h = some (.ret (.bool (decide (l = m))), h) := by
  refine acw_pure (h' := []) (v := .bool (decide (l = m))) (CT T_ref02_Same) rfl rfl ?_ rfl (by simp)
  by_cases hlm : l.length = m.length
  · obtain ⟨h', hh, hloop⟩ := pair_loop (C := C) (b := b_ref02_Same_0) l m hlm (fun i => [(0, intsV l), (1, intsV m), (5, iv i)]) (fun h => h = []) (fun r _ => r) [(0, intsV l), (1, intsV m), (5, iv l.length), (14, .bool false)] [(4, .bool false)] (by
      rintro h rfl
      simp [b_ref02_Same_0]) (by
      rintro i hi hi' h rfl
      have hw := wrap_succ hi (by omega)
      refine ⟨[], rfl, ?_⟩
      by_cases e : l[i] = m[i]
      · simp [b_ref02_Same_0, hi, hi', e, ine, hw]
      · simp [b_ref02_Same_0, hi, hi', e, ine]) l.length 0 [] (by omega) rfl
    subst hh
    simp only [List.drop_zero, Int.cast_ofNat_Int] at hloop
    have hloop : evw C y0 i_ref02_Same_l0 _ _ = _ := hloop
    by_cases hb : l = m
    · simp only [hb, if_true] at hloop
      simp [runW_fin, F_ref02_Same, i_ref02_Same, hb, hloop]
    · simp only [hb, if_false] at hloop
      simp [runW_fin, F_ref02_Same, i_ref02_Same, hb, hloop, hlm]
  · have h2 : ¬ ((l.length : Int) = m.length) := by omega
    have h4 : ¬ (l = m) := fun e => hlm (by rw [e])
    simp [runW_fin, F_ref02_Same, i_ref02_Same, h2, h4, ine]
theorem ref04_Same (d o : Dm) (hn : d.vals.length ≤ 1000000) (h : List Ob) : acw C n_ref04_Same [domV d, domV o] h = some (.ret (.bool (decide (d = o))), h) := by
  have k := ref02_same d.vals o.vals (by omega)
  refine acw_ex (v := .bool (decide (d = o))) (CT T_ref04_Same) rfl rfl (fun _ => rfl) (by simp) ?_
  obtain ⟨a, b⟩ := d
  obtain ⟨a', b'⟩ := o
  simp only [Dm.mk.injEq] at k ⊢
  by_cases c : b = b'
  · subst c
    by_cases c2 : a = a'
    · subst c2
      simp at k
      simp [runW_fin, F_ref04_Same, i_ref04_Same, k, ieq]
    · simp [c2] at k
      simp [runW_fin, F_ref04_Same, i_ref04_Same, k, c2, ieq]
  · have c' : ¬ (b : Int) = b' := by omega
    simp [runW_fin, F_ref04_Same, i_ref04_Same, c, c', ieq]
theorem ref03_Values (l : List Sp) (hl : l.length ≤ 1000000) (hr : spR none l = true) (h : List Ob) : acw C n_ref03_Values [spsV l] h = some (.ret (intsV (valS l)), h) := by
  have ht := spS_top hr
  have ih := rv_l1 [] l hl (spR_all hr) l.length 0 [] (by omega) (by rw [List.drop_zero]; simp; omega)
  rw [List.drop_zero, List.nil_append] at ih
  simp only [List.length_nil, List.map_nil, List.nil_append, Int.cast_ofNat_Int] at ih
  obtain ⟨R, hR⟩ : ∃ R, R = valS l := ⟨_, rfl⟩
  rw [← hR] at ih ⊢
  refine acw_pure (a2 := [spsV l]) (h' := [.row 1 (R.map (V.int .i64))]) (v := .own 0 0 R.length R.length) (CT T_ref03_Values) rfl rfl ?_ (frz_own_ints rfl rfl 10) (by simp)
  simp [runW_fin, F_ref03_Values, i_ref03_Values, ih]
/-- a domain of numbers, or why there is none -/
def newD (l : List Sp) : Dm × Int := if spN l = 0 then (⟨[], 0⟩, 1) else if 64 < spN l then (⟨[], 0⟩, 5) else (⟨valS l, 2 ^ (spN l).toNat - 1⟩, 0)
theorem spN_right {l : List Sp} (h0 : ¬ spN l = 0) : spR none l = true ∧ spN l = spS l := by
  unfold spN at h0 ⊢
  split at h0
  · rename_i h
    exact ⟨h, if_pos h⟩
  · exact absurd rfl h0
theorem ref04_New (l : List Sp) (hl : l.length ≤ 1000000) (h : List Ob) : acw C n_ref04_New [spsV l] h = some (.ret (.tup [domV (newD l).1, iv (newD l).2]), h) := by
  have k1 := ref03_Size l (by omega)
  unfold newD
  by_cases c0 : spN l = 0
  · rw [if_pos c0]
    refine acw_pure (a2 := [spsV l]) (h' := [.row 2 [zD]]) (v := .tup [zD, iv 1]) (CT T_ref04_New) rfl rfl ?_ rfl (by simp)
    simp [runW_fin, F_ref04_New, i_ref04_New, k1, c0, ieq]
  rw [if_neg c0]
  by_cases c1 : 64 < spN l
  · rw [if_pos c1]
    refine acw_pure (a2 := [spsV l]) (h' := [.row 2 [zD]]) (v := .tup [zD, iv 5]) (CT T_ref04_New) rfl rfl ?_ rfl (by simp)
    simp [runW_fin, F_ref04_New, i_ref04_New, k1, c0, c1, ieq]
  rw [if_neg c1]
  have ht := spN_top l
  obtain ⟨n, hn⟩ : ∃ n : Nat, spN l = n := ⟨(spN l).toNat, by omega⟩
  have hr := (spN_right c0).1
  have k2 := ref03_Values l hl hr
  have k3 := ref02_between n (by omega) (by omega)
  rw [hn] at k1 c0 c1 ⊢
  rw [Int.toNat_natCast]
  have hw : IntKind.i64.wrap ((n : Int) - 1) = (n : Int) - 1 := wrap64 (by omega) (by omega)
  obtain ⟨Q, hQ⟩ : ∃ Q, Q = 2 ^ n - 1 := ⟨_, rfl⟩
  obtain ⟨R, hR⟩ : ∃ R, R = valS l := ⟨_, rfl⟩
  rw [← hQ] at k3 ⊢
  rw [← hR] at k2 ⊢
  have c0' : ¬ n = 0 := by omega
  have c1' : ¬ (64 : Int) < n := by omega
  refine acw_pure (a2 := [spsV l]) (h' := [.row 2 [domV ⟨R, Q⟩]]) (v := .tup [domV ⟨R, Q⟩, iv 0]) (CT T_ref04_New) rfl rfl ?_ rfl (by simp)
  simp [runW_fin, F_ref04_New, i_ref04_New, k1, k2, k3, c0, c0', c1', hw, ieq]
theorem dnew_l0 (l : List Sp) (N : V) (hl : l.length ≤ 1000000) (s : Sp) (hs : -1048576 ≤ s.lo ∧ s.hi ≤ 1048576) (bx : Nat) (hb : 2 ≤ bx) (J : V) : ∀ (m : Nat) (x : Int) (v : V) (acc : List Int) (h : List Ob), x + m = s.hi + 1 → -1048576 ≤ x → acc.length + m ≤ 1000000 → h[1]? = some (.row 2 [.agg [v, .int .u64 0]]) → h[bx]? = some (.row 2 [spV s]) → AccB 2 h v 1 (acc.map (V.int .i64)) →
    ∃ v' h', evw C y0 i_dom_New_l0 [(2, .ptr 0 0 0 1), (4, N), (5, .ptr 1 0 0 1), (7, .ptr bx 0 0 1), (8, iv x), (19, spsV l), (20, iv l.length), (21, J)] h =
      some (.ext 3, [(2, .ptr 0 0 0 1), (4, N), (5, .ptr 1 0 0 1), (7, .ptr bx 0 0 1), (8, iv (s.hi + 1)), (19, spsV l), (20, iv l.length), (21, J), (30, .bool false)], h') ∧ h'[1]? = some (.row 2 [.agg [v', .int .u64 0]]) ∧ h'[0]? = h[0]? ∧ AccB 2 h' v' 1 ((acc ++ rng x m).map (V.int .i64))
  | 0, x, v, acc, h, e, hx, ha, h1, h2, hA => by
    have e' : x = s.hi + 1 := by omega
    subst e'
    have c : ¬ s.hi + 1 ≤ s.hi := by omega
    rw [r_dom_New_0]
    refine ⟨v, h, ?_, h1, rfl, by simpa [rng] using hA⟩
    simp [b_dom_New_0, h2, c]
  | m + 1, x, v, acc, h, e, hx, ha, h1, h2, hA => by
    have c : x ≤ s.hi := by omega
    have hw : IntKind.i64.wrap (x + 1) = x + 1 := wrap64 (by omega) (by omega)
    have hl1 := (List.getElem?_eq_some_iff.1 h1).1
    have hl2 := (List.getElem?_eq_some_iff.1 h2).1
    obtain ⟨v1, w, e1, e2, e3, e4⟩ := hA.app (b := 8) (y := .sl 1 [iv x]) (ys := [iv x]) (by omega) rfl (by simp only [List.length_cons, List.length_nil, List.length_map]; omega) (by simp only [List.length_cons, List.length_nil, List.length_map]; omega)
    have e2' : AccB 2 (wr h w) v1 1 ((acc ++ [x]).map (V.int .i64)) := by simpa using e2
    have g1 := e4 1 (by omega)
    rw [h1] at g1
    have g0 := e4 0 (by omega)
    have g2 := e3 bx _ h2 (fun r _ h => by cases h)
    have hlw := wr_length h w
    have hA2 : AccB 2 ((wr h w).set 1 (.row 2 [.agg [v1, .int .u64 0]])) v1 1 ((acc ++ [x]).map (V.int .i64)) := e2'.keep fun j r hj ej => by rw [List.getElem?_set_ne (by omega)]; exact ej
    obtain ⟨v', h', ih1, ih2, ih3, ih4⟩ := dnew_l0 l N hl s hs bx hb J m (x + 1) v1 (acc ++ [x]) ((wr h w).set 1 (.row 2 [.agg [v1, .int .u64 0]])) (by omega) (by omega) (by simp; omega) (by rw [List.getElem?_set_self (by omega)]) (by rw [List.getElem?_set_ne (by omega)]; exact g2) hA2
    have k4 : bsfL (.int .i64 0) [iv x] = some (.sl 1 [iv x]) := rfl
    have k6 := wr_lt (h := wr h w) (i := 1) (o := .row 2 [.agg [v1, .int .u64 0]]) (by omega)
    obtain ⟨q1, q2, q3, q4⟩ := e2'.good
    refine ⟨v', h', ?_, ih2, ?_, ?_⟩
    · rw [r_dom_New_0, ← ih1]
      simp [b_dom_New_0, h1, h2, c, k4, e1, g1, q1, q2, q3, k6, hw]
    · rw [ih3, List.getElem?_set_ne (by omega), g0]
    · rw [rng]
      rw [List.append_assoc] at ih4
      exact ih4
theorem dnew_l1 (l : List Sp) (N : V) (hl : l.length ≤ 1000000) (hb : ∀ s ∈ l, s.lo ≤ s.hi ∧ -1048576 ≤ s.lo ∧ s.hi ≤ 1048576) : ∀ (m i : Nat) (v : V) (acc : List Int) (h : List Ob), i + m = l.length → acc.length + spS (l.drop i) ≤ 1000000 → h[1]? = some (.row 2 [.agg [v, .int .u64 0]]) → AccB 2 h v 1 (acc.map (V.int .i64)) →
    ∃ v' h', evw C y0 i_dom_New_l1 [(2, .ptr 0 0 0 1), (4, N), (5, .ptr 1 0 0 1), (19, spsV l), (20, iv l.length), (21, iv i)] h =
      some (.ext 1, [(2, .ptr 0 0 0 1), (4, N), (5, .ptr 1 0 0 1), (19, spsV l), (20, iv l.length), (21, iv l.length), (22, .bool false)], h') ∧ h'[1]? = some (.row 2 [.agg [v', .int .u64 0]]) ∧ h'[0]? = h[0]? ∧ AccB 2 h' v' 1 ((acc ++ valS (l.drop i)).map (V.int .i64))
  | 0, i, v, acc, h, e, ha, h1, hA => by
    obtain rfl : i = l.length := by omega
    rw [List.drop_length, r_dom_New_1]
    refine ⟨v, h, ?_, h1, rfl, by simpa [valS] using hA⟩
    simp [b_dom_New_1]
  | m + 1, i, v, acc, h, e, ha, h1, hA => by
    have hlt : i < l.length := by omega
    have h2 : (i : Int) < l.length := by omega
    have h3 : l[i]? = some l[i] := by simp [hlt]
    have hw := wrap_succ (i := i) (n := l.length) hlt (by omega)
    have hs := hb l[i] (List.getElem_mem hlt)
    have hnn : 0 ≤ spS (l.drop (i + 1)) := spS_nn fun s hs => hb s (List.mem_of_mem_drop hs)
    rw [List.drop_eq_getElem_cons hlt] at ha ⊢
    simp only [spS] at ha
    have hl1 := (List.getElem?_eq_some_iff.1 h1).1
    obtain ⟨v1, g, k1, k2, k3, k4⟩ := dnew_l0 l N hl l[i] ⟨hs.2.1, hs.2.2⟩ h.length (by omega) (iv i) (l[i].hi - l[i].lo + 1).toNat l[i].lo v acc (h ++ [.row 2 [spV l[i]]]) (by omega) hs.2.1 (by omega) (get_some h1) (by simp) hA.more
    obtain ⟨v', h', ih1, ih2, ih3, ih4⟩ := dnew_l1 l N hl hb m (i + 1) v1 (acc ++ rng l[i].lo (l[i].hi - l[i].lo + 1).toNat) g (by omega) (by rw [List.length_append, rng_len]; omega) k2 k4
    refine ⟨v', h', ?_, ih2, ?_, ?_⟩
    · simp only [Int.natCast_add, Int.cast_ofNat_Int] at ih1
      simp only [spV] at k1
      rw [r_dom_New_1, ← ih1]
      simp [b_dom_New_1, h2, h3, k1, hw]
    · rw [ih3, k3, get_lt (by omega)]
    · rw [valS_cons, ← List.append_assoc]
      exact ih4
theorem dom_New (l : List Sp) (hl : l.length ≤ 1000000) (h : List Ob) : acw C n_dom_New [spsV l] h = some (.ret (.tup [domV (newD l).1, iv (newD l).2]), h) := by
  have k1 := spans_Size l (by omega)
  unfold newD
  by_cases c0 : spN l = 0
  · rw [if_pos c0]
    refine acw_pure (a2 := [spsV l]) (h' := [.row 2 [zD]]) (v := .tup [zD, iv 1]) (CT T_dom_New) rfl rfl ?_ rfl (by simp)
    simp [runW_fin, F_dom_New, i_dom_New, k1, c0, ieq]
  rw [if_neg c0]
  by_cases c1 : 64 < spN l
  · rw [if_pos c1]
    refine acw_pure (a2 := [spsV l]) (h' := [.row 2 [zD]]) (v := .tup [zD, iv 5]) (CT T_dom_New) rfl rfl ?_ rfl (by simp)
    simp [runW_fin, F_dom_New, i_dom_New, k1, c0, c1, ieq]
  rw [if_neg c1]
  have ht := spN_top l
  obtain ⟨n, hn⟩ : ∃ n : Nat, spN l = n := ⟨(spN l).toNat, by omega⟩
  obtain ⟨hr, hsn⟩ := spN_right c0
  obtain ⟨v, g, lp, g1, g0, hA⟩ := dnew_l1 l (iv n) hl (spR_all hr) l.length 0 (.nsl 1) [] [.row 2 [zD], .row 2 [zD]] (by omega) (by rw [List.drop_zero]; simp; omega) rfl .nil
  rw [List.drop_zero, List.nil_append] at hA
  have k3 := first n (by omega)
  rw [hn] at k1 c0 c1 ⊢
  rw [Int.toNat_natCast]
  obtain ⟨Q, hQ⟩ : ∃ Q, Q = 2 ^ n - 1 := ⟨_, rfl⟩
  obtain ⟨R, hR⟩ : ∃ R, R = valS l := ⟨_, rfl⟩
  rw [← hQ] at k3 ⊢
  rw [← hR] at hA ⊢
  have c0' : ¬ n = 0 := by omega
  have c1' : ¬ (64 : Int) < n := by omega
  simp only [Int.cast_ofNat_Int] at lp
  simp at g0
  have hl1 := (List.getElem?_eq_some_iff.1 g1).1
  obtain ⟨q1, q2, q3, q4⟩ := hA.good
  have w1 := wr_lt (h := g) (i := 1) (o := .row 2 [.agg [v, uv Q]]) (by omega)
  have w2 := wr_lt (h := g.set 1 (.row 2 [.agg [v, uv Q]])) (i := 0) (o := .row 2 [.agg [v, uv Q]]) (by simp; omega)
  have hA2 : AccB 2 ((g.set 1 (.row 2 [.agg [v, uv Q]])).set 0 (.row 2 [.agg [v, uv Q]])) v 1 (R.map (V.int .i64)) := hA.keep fun j r hj ej => by rw [List.getElem?_set_ne (by omega), List.getElem?_set_ne (by omega)]; exact ej
  have g0' : (g.set 1 (.row 2 [.agg [v, uv Q]]))[0]? = some (.row 2 [zD]) := by rw [List.getElem?_set_ne (by omega)]; exact g0
  have g1' : (g.set 1 (.row 2 [.agg [v, uv Q]]))[1]? = some (.row 2 [.agg [v, uv Q]]) := List.getElem?_set_self hl1
  have g2' : ((g.set 1 (.row 2 [.agg [v, uv Q]])).set 0 (.row 2 [.agg [v, uv Q]]))[0]? = some (.row 2 [.agg [v, uv Q]]) := List.getElem?_set_self (by simp; omega)
  refine acw_pure (a2 := [spsV l]) (h' := (g.set 1 (.row 2 [.agg [v, uv Q]])).set 0 (.row 2 [.agg [v, uv Q]])) (v := .tup [.agg [v, uv Q], iv 0]) (CT T_dom_New) rfl rfl ?_ ?_ (by simp)
  · simp [runW_fin, F_dom_New, i_dom_New, k1, k3, c0, c0', c1', lp, g1, g0', g1', g2', q1, q2, q3, w1, w2, ieq]
  · have hf := hA2.frz 9 (frz_ints _ _ _)
    show (mapO (RR.frz _ 11) [.agg [v, uv Q], iv 0]).map V.tup = _
    have hx : RR.frz ((g.set 1 (.row 2 [.agg [v, uv Q]])).set 0 (.row 2 [.agg [v, uv Q]])) 11 (.agg [v, uv Q]) = some (domV ⟨R, Q⟩) := by
      show (mapO (RR.frz _ 10) [v, uv Q]).map V.agg = _
      simp only [mapO, hf, show ∀ (g : List Ob) (n : Nat), RR.frz g 10 (uv n) = some (uv n) from fun _ _ => rfl, Option.map_some]
    simp only [mapO, hx, show ∀ (g : List Ob) (n : Int), RR.frz g 11 (iv n) = some (iv n) from fun _ _ => rfl, Option.map_some]
end Go.RR.M
set_option linter.unusedVariables false
set_option linter.unusedSimpArgs false
set_option maxRecDepth 100000
set_option maxHeartbeats 16000000
namespace Go.RR.M
open Go Go.RR
theorem awake0 (n : Nat) (h : List Ob) : acall C (n + 120) n_law04_awake [] h = some (.ret (.bool true), h) := by kernel_rfl
theorem awake (h : List Ob) : acw C n_law04_awake [] h = some (.ret (.bool true), h) := acall_acw 120 _ _ _ _ (awake0 0 h)
theorem keptD_congr {p q : Int → Bool} {d : Dm} (h : ∀ x ∈ listD d, p x = q x) : keptD p d = keptD q d := by
  unfold keptD
  unfold listD at h
  split
  · rename_i hm
    rw [if_pos hm] at h
    rw [keepB_congr d.vals d.live h]
  · rfl
theorem any_filter {L : List Int} {q : Int → Bool} {x : Int} (hx : x ∈ L) : (L.filter q).any (fun y => y == x) = q x := by
  rw [Bool.eq_iff_iff, List.any_eq_true]
  constructor
  · rintro ⟨y, hy, e⟩
    have e : y = x := by simpa using e
    subst e
    exact (List.mem_filter.1 hy).2
  · intro h
    exact ⟨x, List.mem_filter.2 ⟨hx, h⟩, by simp⟩
theorem keptD_live {p : Int → Bool} {d : Dm} (hd : d.live < 18446744073709551616) : (keptD p d).live < 18446744073709551616 ∧ (keptD p d).vals.length ≤ 64 := by
  unfold keptD
  split
  · rename_i hm
    obtain ⟨h1, h2, -⟩ := mayD_iff.1 hm
    have hk := keepB_lt p d.vals d.live
    have hp : 2 ^ d.vals.length ≤ 2 ^ 64 := Nat.pow_le_pow_right (by omega) h1
    exact ⟨by simp only; omega, h1⟩
  · exact ⟨by simp, by simp⟩
theorem tellsD (l : List Sp) (d o : Dm) (v lo hi : Int) (hd : d.live < 18446744073709551616) (ho : o.live < 18446744073709551616) (h : List Ob) : acw C n_law04_DomTells [spsV l, domV d, domV o, iv v, iv lo, iv hi] h = some (.ret (.bool true), h) := by
  refine acw_ex (v := .bool true) (CT T_law04_DomTells) rfl rfl (fun _ => rfl) (by simp) ?_
  have k0 := awake
  by_cases c1 : (100 : Int) < l.length
  · simp [runW_fin, F_law04_DomTells, i_law04_DomTells, k0, c1]
  by_cases c2 : (100 : Int) < d.vals.length
  · simp [runW_fin, F_law04_DomTells, i_law04_DomTells, k0, c1, c2]
  by_cases c3 : (100 : Int) < o.vals.length
  · simp [runW_fin, F_law04_DomTells, i_law04_DomTells, k0, c1, c2, c3]
  have hdl : d.vals.length ≤ 1000000 := by omega
  have n1 := dom_New l (by omega)
  have n2 := ref04_New l (by omega)
  have q1 := dom_May d hd hdl
  have q2 := ref04_May d hd hdl
  have q3 := ref04_List d hd hdl
  have q4 := dom_List d hd hdl
  have q5 := dom_Size d hd hdl
  have q6 := dom_Least d hd hdl
  have q7 := dom_Greatest d hd hdl
  have q8 := dom_Single d hd hdl
  have q9 := dom_Has d v hd hdl
  have q10 := dom_Spans d hd hdl
  have q11 := dom_Only d v hd hdl
  have q12 := dom_Less d v hd hdl
  have q13 := dom_Between d lo hi hd hdl
  have q14 := dom_Same d o hdl
  have q15 := ref04_Same d o hdl
  have hll := listD_len d
  have s1 := ref04_Keep d [v] hd hdl (by simp)
  have s2 := ref04_Keep d ((listD d).filter fun x => x != v) hd hdl (by have := List.length_filter_le (fun x => x != v) (listD d); omega)
  have s3 := ref04_Keep d ((listD d).filter (btw lo hi)) hd hdl (by have := List.length_filter_le (btw lo hi) (listD d); omega)
  rw [show keptD (fun x => [v].any (fun y => y == x)) d = keptD (fun x => x == v) d from keptD_congr fun x _ => by simp [Bool.beq_comm]] at s1
  rw [show keptD (fun x => ((listD d).filter fun x => x != v).any (fun y => y == x)) d = keptD (fun x => x != v) d from keptD_congr fun x hx => any_filter hx] at s2
  rw [show keptD (fun x => ((listD d).filter (btw lo hi)).any (fun y => y == x)) d = keptD (btw lo hi) d from keptD_congr fun x hx => any_filter hx] at s3
  have l1 := keptD_live (p := fun x => x == v) hd
  have l2 := keptD_live (p := fun x => x != v) hd
  have l3 := keptD_live (p := btw lo hi) hd
  have u1 := ref04_Same (keptD (fun x => x == v) d) (keptD (fun x => x == v) d) (by omega)
  have u2 := ref04_Same (keptD (fun x => x != v) d) (keptD (fun x => x != v) d) (by omega)
  have u3 := ref04_Same (keptD (btw lo hi) d) (keptD (btw lo hi) d) (by omega)
  have hnl : (newD l).1.vals.length ≤ 1000000 := by
    unfold newD
    split
    · simp
    · rename_i h0
      split
      · simp
      · rename_i h1
        obtain ⟨hr, hs⟩ := spN_right h0
        have := valS_len (spR_all hr)
        simp only
        omega
  have u4 := ref04_Same (newD l).1 (newD l).1 hnl
  have b1 := ref04_Less (listD d) v (by omega)
  have b2 := ref04_Between (listD d) lo hi (by omega)
  have b3 := ref04_Between (listD d) v v (by omega)
  have b4 := ref03_Of (listD d) (by omega)
  have b5 := ref02_same (listD d) (listD d) (by omega)
  have hol : (ofR (listD d)).1.length ≤ 1000000 := by
    have := ofR_len (listD d)
    omega
  have b6 := ref03_Same (ofR (listD d)).1 (ofR (listD d)).1 (by omega)
  have hhas : ((listD d).any fun y => v == y) = decide (0 < ((listD d).filter (btw v v)).length) := by
    rw [Bool.eq_iff_iff, List.any_eq_true, decide_eq_true_eq, List.length_pos_iff_exists_mem]
    constructor
    · rintro ⟨y, hy, e⟩
      have e : v = y := by simpa using e
      subst e
      exact ⟨v, List.mem_filter.2 ⟨hy, by simp [btw]⟩⟩
    · rintro ⟨y, hy⟩
      obtain ⟨h1, h2⟩ := List.mem_filter.1 hy
      simp [btw] at h2
      exact ⟨y, h1, by simp; omega⟩
  rw [hhas] at q9
  simp only [decide_true] at u1 u2 u3 u4 b5 b6
  have e6 : leastD d = match (listD d)[0]? with | some v => (v, true) | none => (0, false) := rfl
  have e7 : greatD d = match (listD d).getLast? with | some v => (v, true) | none => (0, false) := rfl
  have e8 : singleD d = if (listD d).length = 1 then leastD d else (0, false) := rfl
  have e5 : sizeD d = (listD d).length := rfl
  rw [e8, e6] at q8
  rw [e6] at q6
  rw [e7] at q7
  rw [e5] at q5
  obtain ⟨nd, hnd⟩ : ∃ x, x = newD l := ⟨_, rfl⟩
  obtain ⟨K1, hK1⟩ : ∃ x, x = keptD (fun x => x == v) d := ⟨_, rfl⟩
  obtain ⟨K2, hK2⟩ : ∃ x, x = keptD (fun x => x != v) d := ⟨_, rfl⟩
  obtain ⟨K3, hK3⟩ : ∃ x, x = keptD (btw lo hi) d := ⟨_, rfl⟩
  obtain ⟨F1, hF1⟩ : ∃ x, x = (listD d).filter fun x => x != v := ⟨_, rfl⟩
  obtain ⟨F2, hF2⟩ : ∃ x, x = (listD d).filter (btw lo hi) := ⟨_, rfl⟩
  obtain ⟨F3, hF3⟩ : ∃ x, x = (listD d).filter (btw v v) := ⟨_, rfl⟩
  obtain ⟨O, hO⟩ : ∃ x, x = ofR (listD d) := ⟨_, rfl⟩
  rw [← hnd] at n1 n2 u4
  rw [← hK1] at q11 s1 u1
  rw [← hK2] at q12 s2 u2
  rw [← hK3] at q13 s3 u3
  rw [← hF1] at s2 b1
  rw [← hF2] at s3 b2
  rw [← hF3] at b3 q9
  rw [← hO] at q10 b4 b6
  have k4 : bsfL (.int .i64 0) [iv v] = some (.sl 1 [iv v]) := rfl
  have s1' : ∀ h, acw C n_ref04_Keep [domV d, .sl 1 [iv v]] h = some (.ret (domV K1), h) := s1
  obtain ⟨L, hL⟩ : ∃ x, x = listD d := ⟨_, rfl⟩
  rw [← hL] at q3 q4 q5 q6 q7 q8 hll b1 b2 b3 b4 b5
  clear hL hO hF1 hF2 hF3 hK1 hK2 hK3 hnd hol hnl hhas
  cases L with
  | nil =>
    simp at q5 q6 q7 q8
    simp [runW_fin, F_law04_DomTells, i_law04_DomTells, k0, c1, c2, c3, n1, n2, q1, q2, q3, q4, q5, q6, q7, q8, q9, q10, q11, q12, q13, q14, q15, s1', s2, s3, u1, u2, u3, u4, b1, b2, b3, b4, b5, b6, k4, ieq, ine]
  | cons a r =>
    obtain ⟨z, hz⟩ : ∃ z, (a :: r).getLast? = some z := ⟨_, List.getLast?_eq_some_getLast (by simp)⟩
    have hz2 : (a :: r)[r.length]? = some z := by rw [← hz, List.getLast?_eq_getElem?]; simp
    rw [hz] at q7
    have hw : IntKind.i64.wrap (r.length : Int) = r.length := wrap64 (by simp at hll; omega) (by simp at hll; omega)
    have hg := (List.getElem?_eq_some_iff.1 hz2).2
    have hg2 : ∀ h, (V.int .i64 a :: r.map (V.int .i64))[r.length]'h = .int .i64 z := fun h => by
      have : ((a :: r).map (V.int .i64))[r.length]'(by simp) = .int .i64 z := by rw [List.getElem_map, hg]
      exact this
    by_cases c : r.length = 0
    · have hr : r = [] := List.length_eq_zero_iff.1 c
      subst hr
      simp at q5 q6 q7 q8 hz
      subst hz
      simp [runW_fin, F_law04_DomTells, i_law04_DomTells, k0, c1, c2, c3, n1, n2, q1, q2, q3, q4, q5, q6, q7, q8, q9, q10, q11, q12, q13, q14, q15, s1', s2, s3, u1, u2, u3, u4, b1, b2, b3, b4, b5, b6, k4, ieq, ine]
    · have c' : ¬ (r.length : Int) + 1 = 1 := by omega
      have c'' : ¬ r = [] := fun e => c (by rw [e]; rfl)
      simp [c, c''] at q5 q6 q7 q8
      simp [runW_fin, F_law04_DomTells, i_law04_DomTells, k0, c1, c2, c3, n1, n2, q1, q2, q3, q4, q5, q6, q7, q8, q9, q10, q11, q12, q13, q14, q15, s1', s2, s3, u1, u2, u3, u4, b1, b2, b3, b4, b5, b6, k4, hw, hz2, hg, hg2, c, c', c'', ieq, ine]
end Go.RR.M
set_option linter.unusedVariables false
set_option linter.unusedSimpArgs false
set_option maxRecDepth 100000
set_option maxHeartbeats 16000000
namespace Go.RR.M
open Go Go.RR
theorem filter_both (p : Int → Bool) : ∀ l : List Int, (l.filter p).length + (l.filter fun x => !p x).length = l.length
  | [] => rfl
  | x :: r => by
    have := filter_both p r
    cases h : p x <;> simp [h] <;> omega
theorem kept_may {p : Int → Bool} {d : Dm} (hm : mayD d = true) : keptD p d = ⟨d.vals, keepB p d.vals d.live⟩ ∧ mayD (keptD p d) = true ∧ listD (keptD p d) = (listD d).filter p := by
  have e : keptD p d = ⟨d.vals, keepB p d.vals d.live⟩ := by unfold keptD; rw [if_pos hm]
  obtain ⟨h1, h2, h3⟩ := mayD_iff.1 hm
  have m : mayD (keptD p d) = true := by
    rw [e]
    exact mayD_iff.2 ⟨h1, keepB_lt p d.vals d.live, h3⟩
  refine ⟨e, m, ?_⟩
  unfold listD
  rw [if_pos m, if_pos hm, e, leftR_keep]
theorem kept_kept {p q : Int → Bool} {d : Dm} (hm : mayD d = true) : keptD p (keptD q d) = keptD (fun x => q x && p x) d := by
  obtain ⟨e1, m1, -⟩ := kept_may (p := q) hm
  obtain ⟨e2, -, -⟩ := kept_may (p := p) m1
  obtain ⟨e3, -, -⟩ := kept_may (p := fun x => q x && p x) hm
  rw [e2, e3, e1]
  simp only [keepB_keepB]
theorem fallsD (d : Dm) (v lo hi : Int) (hd : d.live < 18446744073709551616) (h : List Ob) : acw C n_law04_DomFalls [domV d, iv v, iv lo, iv hi] h = some (.ret (.bool true), h) := by
  refine acw_ex (v := .bool true) (CT T_law04_DomFalls) rfl rfl (fun _ => rfl) (by simp) ?_
  have k0 := awake
  by_cases c2 : (100 : Int) < d.vals.length
  · simp [runW_fin, F_law04_DomFalls, i_law04_DomFalls, k0, c2]
  have hdl : d.vals.length ≤ 1000000 := by omega
  have q1 := dom_May d hd hdl
  cases hm : mayD d with
  | false =>
    rw [hm] at q1
    simp [runW_fin, F_law04_DomFalls, i_law04_DomFalls, k0, c2, q1]
  | true =>
    rw [hm] at q1
    obtain ⟨h1, h2, -⟩ := mayD_iff.1 hm
    obtain ⟨a1, a2, a3⟩ := kept_may (p := fun x => x == v) hm
    obtain ⟨b1, b2, b3⟩ := kept_may (p := fun x => x != v) hm
    obtain ⟨c1, c2', c3⟩ := kept_may (p := btw lo hi) hm
    have la := keptD_live (p := fun x => x == v) hd
    have lb := keptD_live (p := fun x => x != v) hd
    have lc := keptD_live (p := btw lo hi) hd
    have qa := dom_Only d v hd hdl
    have qb := dom_Less d v hd hdl
    have qc := dom_Between d lo hi hd hdl
    have ma := dom_May (keptD (fun x => x == v) d) la.1 (by omega)
    have mb := dom_May (keptD (fun x => x != v) d) lb.1 (by omega)
    have mc := dom_May (keptD (btw lo hi) d) lc.1 (by omega)
    rw [a2] at ma
    rw [b2] at mb
    rw [c2'] at mc
    have x1 := dom_Less (keptD (btw lo hi) d) v lc.1 (by omega)
    have x2 := dom_Between (keptD (fun x => x != v) d) lo hi lb.1 (by omega)
    have x3 := dom_Only (keptD (btw lo hi) d) v lc.1 (by omega)
    have x4 := dom_Between (keptD (fun x => x == v) d) lo hi la.1 (by omega)
    have x5 := dom_Between (keptD (btw lo hi) d) lo hi lc.1 (by omega)
    rw [kept_kept hm] at x1 x2 x3 x4 x5
    rw [show (fun x => (x != v) && btw lo hi x) = fun x => btw lo hi x && (x != v) from funext fun x => Bool.and_comm _ _] at x2
    rw [show (fun x => (x == v) && btw lo hi x) = fun x => btw lo hi x && (x == v) from funext fun x => Bool.and_comm _ _] at x4
    rw [show (fun x => btw lo hi x && btw lo hi x) = btw lo hi from funext fun x => Bool.and_self _] at x5
    have y1 := dom_Same (keptD (fun x => btw lo hi x && (x != v)) d) (keptD (fun x => btw lo hi x && (x != v)) d) (by have := (keptD_live (p := fun x => btw lo hi x && (x != v)) hd).2; omega)
    have y2 := dom_Same (keptD (fun x => btw lo hi x && (x == v)) d) (keptD (fun x => btw lo hi x && (x == v)) d) (by have := (keptD_live (p := fun x => btw lo hi x && (x == v)) hd).2; omega)
    have y3 := dom_Same (keptD (btw lo hi) d) (keptD (btw lo hi) d) (by omega)
    simp only [decide_true] at y1 y2 y3
    have z1 := dom_Size (keptD (fun x => x == v) d) la.1 (by omega)
    have z2 := dom_Size (keptD (fun x => x != v) d) lb.1 (by omega)
    have z3 := dom_Size d hd hdl
    have hsum : sizeD (keptD (fun x => x == v) d) + sizeD (keptD (fun x => x != v) d) = sizeD d := by
      unfold sizeD
      rw [a3, b3]
      exact filter_both (fun x => x == v) (listD d)
    have hs1 := listD_len d
    have e0 : sizeD d = (listD d).length := rfl
    have o1 : keepB (fun x => x == v) d.vals d.live ||| keepB (fun x => x != v) d.vals d.live = d.live := by
      rw [keepB_or, show (fun x : Int => (x == v) || (x != v)) = fun _ => true from funext fun x => by cases e : x == v <;> simp [bne, e], keepB_all _ _ h2]
    have o2 : keepB (fun x => x == v) d.vals d.live &&& keepB (fun x => x != v) d.vals d.live = 0 := by
      rw [keepB_and, show (fun x : Int => (x == v) && (x != v)) = fun _ => false from funext fun x => by cases e : x == v <;> simp [bne, e], keepB_none]
    have o3 : keepB (btw lo hi) d.vals d.live &&& d.live = keepB (btw lo hi) d.vals d.live := by
      have := keepB_and (btw lo hi) (fun _ => true) d.vals d.live
      rw [keepB_all _ _ h2] at this
      rw [this]
      simp
    have lA : keepB (fun x => x == v) d.vals d.live < 18446744073709551616 := by have := la.1; rw [a1] at this; exact this
    have lB : keepB (fun x => x != v) d.vals d.live < 18446744073709551616 := by have := lb.1; rw [b1] at this; exact this
    have lC : keepB (btw lo hi) d.vals d.live < 18446744073709551616 := by have := lc.1; rw [c1] at this; exact this
    have w1 := orU' _ _ lA lB
    have w2 := andU' _ _ lA lB
    obtain ⟨N, w3, w4⟩ := an_bin _ _ lC hd
    have w4 := w4.2 o3
    subst w4
    rw [o1] at w1
    rw [o2] at w2
    obtain ⟨A, hA⟩ : ∃ x, x = keepB (fun x => x == v) d.vals d.live := ⟨_, rfl⟩
    obtain ⟨B, hB⟩ : ∃ x, x = keepB (fun x => x != v) d.vals d.live := ⟨_, rfl⟩
    obtain ⟨D, hD⟩ : ∃ x, x = keepB (btw lo hi) d.vals d.live := ⟨_, rfl⟩
    rw [← hA] at a1 w1 w2
    rw [← hB] at b1 w1 w2
    rw [← hD] at c1 w3
    rw [a1] at qa ma x4 z1 hsum
    rw [b1] at qb mb x2 z2 hsum
    rw [c1] at qc mc x1 x3 x5 y3
    obtain ⟨E1, hE1⟩ : ∃ x, x = keptD (fun x => btw lo hi x && (x != v)) d := ⟨_, rfl⟩
    obtain ⟨E2, hE2⟩ : ∃ x, x = keptD (fun x => btw lo hi x && (x == v)) d := ⟨_, rfl⟩
    rw [← hE1] at x1 x2 y1
    rw [← hE2] at x3 x4 y2
    obtain ⟨S1, hS1⟩ : ∃ x, x = sizeD ⟨d.vals, A⟩ := ⟨_, rfl⟩
    obtain ⟨S2, hS2⟩ : ∃ x, x = sizeD ⟨d.vals, B⟩ := ⟨_, rfl⟩
    obtain ⟨S3, hS3⟩ : ∃ x, x = sizeD d := ⟨_, rfl⟩
    rw [← hS1] at z1 hsum
    rw [← hS2] at z2 hsum
    rw [← hS3] at z3 hsum e0
    have w5 : IntKind.i64.wrap ((S1 : Int) + S2) = S3 := by rw [wrap64 (by omega) (by omega)]; omega
    simp [runW_fin, F_law04_DomFalls, i_law04_DomFalls, w_dr, k0, c2, q1, qa, qb, qc, ma, mb, mc, x1, x2, x3, x4, x5, y1, y2, y3, z1, z2, z3, w1, w2, w3, w5, ieq, ine]
end Go.RR.M
set_option linter.unusedVariables false
namespace Go.RR
open Go
abbrev domSh : Sh := .st (.cons intsSh (.cons (.int .u64) .nil))
theorem has_dom {vs : List V} (h : Has domSh vs) : ∃ s : Dm, domSh.mk vs = domV s ∧ s.live < 18446744073709551616 := by
  unfold domSh at h
  rw [Has] at h
  simp only [HasF] at h
  obtain ⟨a1, b1, rfl, h1, a2, b2, rfl, h2, rfl⟩ := h
  obtain ⟨l1, rfl, -⟩ := has_ints h1
  obtain ⟨n2, rfl, h3, h4⟩ := has_u64 h2
  obtain ⟨m, rfl⟩ := Int.eq_ofNat_of_zero_le h3
  exact ⟨⟨l1, m⟩, rfl, by simp only; omega⟩
end Go.RR
