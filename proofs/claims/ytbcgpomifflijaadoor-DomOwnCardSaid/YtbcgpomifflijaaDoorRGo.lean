/- The second reading's table for this seat: the functions that are known by the library's contracts. -/
import Derived.Test.YtbcgpomifflijaaDoorR5
import Derived.Test.YtbcgpomifflijaaDoorRIo
import Derived.Laws.MathBits
import Derived.Lib.BitFns
import Derived.Shelf.Spec.TrailingZeros
import Derived.Lib.TrailingZeros
set_option linter.unusedVariables false
set_option linter.unusedSimpArgs false
set_option linter.unusedVariables false
set_option linter.unusedSimpArgs false
set_option maxRecDepth 100000
namespace Go.RR.M
open Go Go.RR
def S (f : Nat) (a : List V) : Option V :=
  if f = n_slices_Clone_sint_int then s_clone 1 8 a
  else if f = n_math_bits_TrailingZeros64 then (match a with
    | [.int .u64 x] => if 0 ≤ x ∧ x < 18446744073709551616 then some (.int .i64 (Go.Lib.ctz 64 x.toNat)) else none
    | _ => none)
  else if f = n_math_bits_Len64 then (match a with
    | [.int .u64 x] => if 0 ≤ x ∧ x < 18446744073709551616 then some (.int .i64 (Go.Lib.bitLen x.toNat)) else none
    | _ => none)
  else none
def H (f : Nat) (a : List V) (h : List Ob) : Option (Out × List Ob) :=
  if f = n_slices_Sort_sint_int then sortH a h
  else if f = n_slices_Clone_sint_int then cloneH 1 8 a h
  else none
def C : Cx := ⟨T, S, H⟩
theorem CT {f : Nat} {F : F} (h : T f = some F) : C.T f = some F := h
end Go.RR.M
set_option maxRecDepth 100000
namespace Go.RR.M
open Go Go.RR
theorem awake0 (n : Nat) (h : List Ob) : acall C (n + 120) n_law04_awake [] h = some (.ret (.bool true), h) := by kernel_rfl
theorem awake (h : List Ob) : acw C n_law04_awake [] h = some (.ret (.bool true), h) := acall_acw 120 _ _ _ _ (awake0 0 h)
end Go.RR.M
namespace Go.RR.M
open Go Go.RR
abbrev iv (n : Int) : V := .int .i64 n
end Go.RR.M
set_option linter.unusedVariables false
set_option linter.unusedSimpArgs false
set_option maxRecDepth 100000
namespace Go.RR
/-- a set without its least -/
def lowc (b : Nat) : Nat := b &&& (b - 1)
/-- what is in a set, from the least on -/
def lsts : Nat → Nat → List Nat
  | 0, _ => []
  | n + 1, b => if b = 0 then [] else Go.Lib.ctz 64 b :: lsts n (lowc b)
/-- so many steps are enough -/
def done : Nat → Nat → Prop
  | 0, b => b = 0
  | n + 1, b => b = 0 ∨ done n (lowc b)
theorem lowc_lt {b : Nat} (h : b < 18446744073709551616) : lowc b < 18446744073709551616 := Nat.lt_of_le_of_lt Nat.and_le_left h
/-- the places of a number's ones -/
def posL : Nat → Nat → List Nat
  | 0, _ => []
  | n + 1, b => if b % 2 = 1 then 0 :: (posL n (b / 2)).map (· + 1) else (posL n (b / 2)).map (· + 1)
theorem posL_zero : ∀ n, posL n 0 = []
  | 0 => rfl
  | n + 1 => by simp [posL, posL_zero n]
theorem lowc_even (c : Nat) : lowc (2 * c) = 2 * lowc c := by
  by_cases h : c = 0
  · subst h; rfl
  · have h1 : (2 * c &&& (2 * c - 1)) / 2 = c &&& (c - 1) := by
      rw [Nat.and_div_two, show 2 * c / 2 = c by omega, show (2 * c - 1) / 2 = c - 1 by omega]
    have h2 : ¬ (2 * c &&& (2 * c - 1)) % 2 = 1 := by rw [Nat.and_mod_two_eq_one]; omega
    unfold lowc
    omega
theorem lowc_odd (c : Nat) : lowc (2 * c + 1) = 2 * c := by
  have h1 : (2 * c + 1 &&& (2 * c + 1 - 1)) / 2 = c := by
    rw [Nat.and_div_two, show (2 * c + 1) / 2 = c by omega, show (2 * c + 1 - 1) / 2 = c by omega, Nat.and_self]
  have h2 : ¬ (2 * c + 1 &&& (2 * c + 1 - 1)) % 2 = 1 := by rw [Nat.and_mod_two_eq_one]; omega
  unfold lowc
  omega
theorem ctzFrom_fuel : ∀ (f g x : Nat), 0 < x → x < 2 ^ f → f ≤ g → Go.Lib.ctzFrom g x = Go.Lib.ctzFrom f x
  | 0, g, x, h0, h1, _ => by simp at h1; omega
  | f + 1, 0, x, h0, h1, h2 => by omega
  | f + 1, g + 1, x, h0, h1, h2 => by
    unfold Go.Lib.ctzFrom
    split
    · rfl
    · rw [ctzFrom_fuel f g (x / 2) (by omega) (by rw [Nat.pow_succ] at h1; omega) (by omega)]
theorem ctz_even {c : Nat} (h0 : c ≠ 0) (h : c < 2 ^ 63) : Go.Lib.ctz 64 (2 * c) = Go.Lib.ctz 64 c + 1 := by
  unfold Go.Lib.ctz
  rw [if_neg (by omega), if_neg h0, ctzFrom_fuel 63 64 c (by omega) h (by omega)]
  show Go.Lib.ctzFrom (63 + 1) (2 * c) = _
  rw [Go.Lib.ctzFrom, if_neg (by omega), show 2 * c / 2 = c by omega]
  omega
theorem ctz_odd (c : Nat) : Go.Lib.ctz 64 (2 * c + 1) = 0 := by
  unfold Go.Lib.ctz
  rw [if_neg (by omega)]
  show Go.Lib.ctzFrom (63 + 1) (2 * c + 1) = _
  rw [Go.Lib.ctzFrom, if_pos (by omega)]
theorem lowc_le (b : Nat) : lowc b ≤ b := Nat.and_le_left
theorem lsts_zero : ∀ m, lsts m 0 = []
  | 0 => rfl
  | m + 1 => by simp [lsts]
theorem lsts_even : ∀ (m c : Nat), c < 2 ^ 63 → lsts m (2 * c) = (lsts m c).map (· + 1)
  | 0, _, _ => rfl
  | m + 1, c, h => by
    by_cases h0 : c = 0
    · subst h0; simp [lsts]
    · have hl := lowc_le c
      rw [lsts, if_neg (by omega), lsts, if_neg h0, List.map_cons, ctz_even h0 h, lowc_even, lsts_even m _ (by omega)]
theorem lsts_pos : ∀ (n m b : Nat), n ≤ 64 → b < 2 ^ n → n ≤ m → lsts m b = posL n b
  | 0, m, b, _, h, _ => by
    obtain rfl : b = 0 := by simp at h; exact h
    rw [lsts_zero]; rfl
  | n + 1, 0, b, _, h, hm => by omega
  | n + 1, m + 1, b, hn, h, hm => by
    rw [Nat.pow_succ] at h
    have hp : 2 ^ n ≤ 2 ^ 63 := Nat.pow_le_pow_right (by omega) (by omega)
    by_cases c : b % 2 = 1
    · obtain ⟨k, rfl⟩ : ∃ k, b = 2 * k + 1 := ⟨b / 2, by omega⟩
      rw [lsts, if_neg (by omega), ctz_odd, lowc_odd, lsts_even m k (by omega), lsts_pos n m k (by omega) (by omega) (by omega), posL, if_pos c, show (2 * k + 1) / 2 = k by omega]
    · obtain ⟨k, rfl⟩ : ∃ k, b = 2 * k := ⟨b / 2, by omega⟩
      rw [lsts_even (m + 1) k (by omega), lsts_pos n (m + 1) k (by omega) (by omega) (by omega), posL, if_neg c, show 2 * k / 2 = k by omega]
theorem done_zero : ∀ m, done m 0
  | 0 => rfl
  | m + 1 => .inl rfl
theorem done_even : ∀ (m c : Nat), done m c → done m (2 * c)
  | 0, c, h => by have : c = 0 := h; subst this; rfl
  | m + 1, c, h => by
    rcases h with h | h
    · subst h; exact .inl rfl
    · refine .inr ?_
      rw [lowc_even]
      exact done_even m _ h
theorem done_pos : ∀ (n m b : Nat), b < 2 ^ n → n ≤ m → done m b
  | 0, m, b, h, _ => by
    obtain rfl : b = 0 := by simp at h; exact h
    exact done_zero m
  | n + 1, 0, b, h, hm => by omega
  | n + 1, m + 1, b, h, hm => by
    rw [Nat.pow_succ] at h
    by_cases c : b % 2 = 1
    · obtain ⟨k, rfl⟩ : ∃ k, b = 2 * k + 1 := ⟨b / 2, by omega⟩
      refine .inr ?_
      rw [lowc_odd]
      exact done_even m k (done_pos n m k (by omega) (by omega))
    · obtain ⟨k, rfl⟩ : ∃ k, b = 2 * k := ⟨b / 2, by omega⟩
      exact done_even (m + 1) k (done_pos n (m + 1) k (by omega) (by omega))
theorem posL_fuel : ∀ (n m b : Nat), b < 2 ^ n → n ≤ m → posL m b = posL n b
  | 0, m, b, h, _ => by
    obtain rfl : b = 0 := by simp at h; exact h
    rw [posL_zero]; rfl
  | n + 1, 0, b, h, hm => by omega
  | n + 1, m + 1, b, h, hm => by
    rw [Nat.pow_succ] at h
    rw [posL, posL, posL_fuel n m (b / 2) (by omega) (by omega)]
theorem posL_lt : ∀ (n b k : Nat), k ∈ posL n b → k < n
  | 0, b, k, h => by simp [posL] at h
  | n + 1, b, k, h => by
    unfold posL at h
    have key : k ∈ (posL n (b / 2)).map (· + 1) → k < n + 1 := fun h => by
      obtain ⟨j, hj, rfl⟩ := List.mem_map.1 h
      have := posL_lt n _ j hj
      omega
    split at h
    · rcases List.mem_cons.1 h with rfl | h
      · omega
      · exact key h
    · exact key h
theorem posL_cnt : ∀ (n b : Nat), (posL n b).length ≤ n
  | 0, b => by simp [posL]
  | n + 1, b => by
    have := posL_cnt n (b / 2)
    unfold posL
    split <;> simp <;> omega
theorem posL_len : ∀ (n b : Nat), (posL n b).length = Go.Lib.popAux n b
  | 0, b => rfl
  | n + 1, b => by
    unfold posL Go.Lib.popAux
    split
    · rename_i h; simp [posL_len n, h]; omega
    · rename_i h
      have : b % 2 = 0 := by omega
      simp [posL_len n, this]
theorem posL_nil : ∀ (n b : Nat), b < 2 ^ n → (posL n b = [] ↔ b = 0)
  | 0, b, h => by simp at h; simp [posL, h]
  | n + 1, b, h => by
    rw [Nat.pow_succ] at h
    have ih := posL_nil n (b / 2) (by omega)
    unfold posL
    split
    · simp; omega
    · rw [List.map_eq_nil_iff, ih]; omega
/-- the values at a number's ones -/
def leftR : List Int → Nat → List Int
  | [], _ => []
  | v :: r, b => if b % 2 = 1 then v :: leftR r (b / 2) else leftR r (b / 2)
theorem leftR_pos : ∀ (l : List Int) (b : Nat), (posL l.length b).map (fun k => l.getD k 0) = leftR l b
  | [], b => rfl
  | v :: r, b => by
    have ih := leftR_pos r (b / 2)
    have e : ((posL r.length (b / 2)).map (· + 1)).map (fun k => (v :: r).getD k 0) = leftR r (b / 2) := by
      rw [List.map_map, ← ih]
      rfl
    show (posL (r.length + 1) b).map _ = _
    unfold posL leftR
    split
    · rw [List.map_cons, e]; rfl
    · exact e
theorem leftR_len (l : List Int) (b : Nat) : (leftR l b).length = (posL l.length b).length := by rw [← leftR_pos, List.length_map]
theorem leftR_mem : ∀ (l : List Int) (b : Nat) (v : Int), v ∈ leftR l b → v ∈ l
  | [], b, v, h => by simp [leftR] at h
  | x :: r, b, v, h => by
    unfold leftR at h
    split at h
    · rcases List.mem_cons.1 h with rfl | h
      · simp
      · exact List.mem_cons_of_mem _ (leftR_mem r _ v h)
    · exact List.mem_cons_of_mem _ (leftR_mem r _ v h)
/-- some of a number's ones -/
def keepB (p : Int → Bool) : List Int → Nat → Nat
  | [], _ => 0
  | v :: r, b => (if b % 2 = 1 ∧ p v = true then 1 else 0) + 2 * keepB p r (b / 2)
theorem keepB_lt (p : Int → Bool) : ∀ (l : List Int) (b : Nat), keepB p l b < 2 ^ l.length
  | [], b => by simp [keepB]
  | v :: r, b => by
    have ih := keepB_lt p r (b / 2)
    unfold keepB
    rw [List.length_cons, Nat.pow_succ]
    split <;> omega
theorem keepB_congr {p q : Int → Bool} : ∀ (l : List Int) (b : Nat), (∀ v ∈ leftR l b, p v = q v) → keepB p l b = keepB q l b
  | [], b, _ => rfl
  | v :: r, b, h => by
    unfold keepB
    unfold leftR at h
    by_cases c : b % 2 = 1
    · rw [if_pos c] at h
      rw [keepB_congr r (b / 2) (fun x hx => h x (List.mem_cons_of_mem _ hx)), h v (by simp)]
    · rw [if_neg c] at h
      rw [keepB_congr r (b / 2) h]
      simp [c]
/-- a one more, above all -/
theorem or_pow {a j : Nat} (h : a < 2 ^ j) : a ||| 2 ^ j = a + 2 ^ j := by
  rw [Nat.or_comm, ← Nat.mul_one (2 ^ j), ← Nat.two_pow_add_eq_or_of_lt h]
  omega
theorem keepB_fold (p : Int → Bool) : ∀ (l : List Int) (b j acc : Nat) (f : Nat → Int), (∀ k, k < l.length → f (k + j) = l.getD k 0) → acc < 2 ^ j → ((posL l.length b).map (· + j)).foldl (fun a k => if p (f k) = true then a ||| 2 ^ k else a) acc = acc + 2 ^ j * keepB p l b
  | [], b, j, acc, f, hf, h => by simp [posL, keepB]
  | v :: r, b, j, acc, f, hf, h => by
    have e : ∀ L : List Nat, (L.map (· + 1)).map (· + j) = L.map (· + (j + 1)) := fun L => by
      rw [List.map_map]
      apply List.map_congr_left
      intro k _
      simp only [Function.comp]
      omega
    have hf' : ∀ k, k < r.length → f (k + (j + 1)) = r.getD k 0 := fun k hk => by
      have := hf (k + 1) (by simp; omega)
      rw [show k + (j + 1) = k + 1 + j by omega, this]
      rfl
    have hv : f j = v := by
      have := hf 0 (by simp)
      rw [Nat.zero_add] at this
      exact this
    show ((posL (r.length + 1) b).map (· + j)).foldl _ acc = _
    unfold posL keepB
    have hp : 2 ^ (j + 1) = 2 ^ j * 2 := Nat.pow_succ ..
    by_cases c : b % 2 = 1
    · rw [if_pos c, List.map_cons, List.foldl_cons, Nat.zero_add, hv, e]
      by_cases c2 : p v = true
      · rw [if_pos c2, or_pow h, keepB_fold p r (b / 2) (j + 1) _ f hf' (by omega), if_pos ⟨c, c2⟩, hp, Nat.mul_assoc, Nat.mul_add, Nat.mul_one]
        omega
      · rw [if_neg c2, keepB_fold p r (b / 2) (j + 1) _ f hf' (by omega), if_neg (fun h => c2 h.2), hp, Nat.mul_assoc, Nat.zero_add]
    · rw [if_neg c, e, keepB_fold p r (b / 2) (j + 1) _ f hf' (by omega), if_neg (fun h => c h.1), hp, Nat.mul_assoc, Nat.zero_add]
end Go.RR
set_option linter.unusedVariables false
set_option linter.unusedSimpArgs false
set_option maxRecDepth 100000
set_option maxHeartbeats 4000000
namespace Go.RR
theorem andU (a b : Nat) (ha : a < 18446744073709551616) (hb : b < 18446744073709551616) : IntKind.u64.wrap ((BitVec.ofInt IntKind.u64.bits (a : Int) &&& BitVec.ofInt IntKind.u64.bits (b : Int)).toNat : Int) = ((a &&& b : Nat) : Int) := by
  have hx : a &&& b < 2 ^ 64 := Nat.and_lt_two_pow _ (by omega)
  have h1 : (BitVec.ofInt IntKind.u64.bits (a : Int)).toNat = a := by
    show (BitVec.ofInt 64 (a : Int)).toNat = a
    rw [BitVec.ofInt_natCast, BitVec.toNat_ofNat]; exact Nat.mod_eq_of_lt (by omega)
  have h2 : (BitVec.ofInt IntKind.u64.bits (b : Int)).toNat = b := by
    show (BitVec.ofInt 64 (b : Int)).toNat = b
    rw [BitVec.ofInt_natCast, BitVec.toNat_ofNat]; exact Nat.mod_eq_of_lt (by omega)
  rw [BitVec.toNat_and, h1, h2]
  exact wrapU (by omega) (by omega)
theorem andU' (a b : Nat) (ha : a < 18446744073709551616) (hb : b < 18446744073709551616) : IntKind.u64.wrap ((a % 2 ^ IntKind.u64.bits &&& b % 2 ^ IntKind.u64.bits : Nat) : Int) = ((a &&& b : Nat) : Int) := by
  rw [Nat.mod_eq_of_lt (show a < 2 ^ IntKind.u64.bits from ha), Nat.mod_eq_of_lt (show b < 2 ^ IntKind.u64.bits from hb)]
  have hx : a &&& b < 2 ^ 64 := Nat.and_lt_two_pow _ (by omega)
  exact wrapU (by omega) (by omega)
end Go.RR
namespace Go.RR.M
open Go Go.RR
abbrev uv (n : Nat) : V := .int .u64 n
theorem tz (b : Nat) (hb : b < 18446744073709551616) (h : List Ob) : acw C n_math_bits_TrailingZeros64 [uv b] h = some (.ret (iv (Go.Lib.ctz 64 b)), h) := by
  refine acw_S (a2 := [uv b]) rfl rfl rfl ?_ rfl
  have h1 : (0 : Int) ≤ b ∧ (b : Int) < 18446744073709551616 := by omega
  simp only [C, S, if_neg (show ¬ n_math_bits_TrailingZeros64 = n_slices_Clone_sint_int from by decide), if_true, if_pos h1, Int.toNat_natCast]
theorem least (b : Nat) (hb : b < 18446744073709551616) (h : List Ob) : acw C n_bits_Least [uv b] h = some (.ret (iv (if b = 0 then -1 else Go.Lib.ctz 64 b)), h) := by
  refine acw_ex (v := iv (if b = 0 then -1 else Go.Lib.ctz 64 b)) (CT T_bits_Least) rfl rfl (fun _ => rfl) (by simp) ?_
  by_cases e : b = 0
  · subst e
    simp [runW_fin, F_bits_Least, i_bits_Least]
  · have e' : ¬ (b : Int) = 0 := by omega
    simp [runW_fin, F_bits_Least, i_bits_Least, e, ieq, ine, e', tz b hb]
theorem all_loop (Y : Yl) (y ib : Nat) (G : List Nat → Nat → List Ob) (hY : ∀ pre b, pre.length < 64 → Y [.mp y, iv (Go.Lib.ctz 64 b)] (G pre b) = some (.ret (.bool true), G (pre ++ [Go.Lib.ctz 64 b]) b))
    (hB : ∀ pre b, (G pre b)[ib]? = some (.row 1 [uv b])) (hS : ∀ pre b b', (G pre b).set ib (.row 1 [uv b']) = G pre b') : ∀ (n b : Nat) (pre : List Nat), b < 18446744073709551616 → done n b → pre.length + n ≤ 64 →
    evw C Y i_bits_all_1_l0 [(0, .mp y), (1, .ptr ib 0 0 1)] (G pre b) = some (.ext 0, [(0, .mp y), (1, .ptr ib 0 0 1), (4, .bool false)], G (pre ++ lsts n b) 0) := by
  have base : ∀ pre, evw C Y i_bits_all_1_l0 [(0, .mp y), (1, .ptr ib 0 0 1)] (G pre 0) = some (.ext 0, [(0, .mp y), (1, .ptr ib 0 0 1), (4, .bool false)], G pre 0) := by
    intro pre
    have h0 := hB pre 0
    simp only [uv, Int.cast_ofNat_Int] at h0
    rw [r_bits_all_1_0]
    simp [b_bits_all_1_0, h0, ieq, ine]
  intro n
  induction n with
  | zero =>
    intro b pre hb hd hl
    have : b = 0 := hd
    subst this
    simpa [lsts] using base pre
  | succ n ih =>
    intro b pre hb hd hl
    by_cases e : b = 0
    · subst e
      simpa [lsts] using base pre
    · have hd : done n (lowc b) := by rcases hd with h | h; exact absurd h e; exact h
      have ih := ih (lowc b) (pre ++ [Go.Lib.ctz 64 b]) (lowc_lt hb) hd (by simp; omega)
      have e' : ¬ (b : Int) = 0 := by omega
      have h0 := hB pre b
      have h1 := hB (pre ++ [Go.Lib.ctz 64 b]) b
      have hl := least b hb (G pre b)
      rw [if_neg e] at hl
      have hw : IntKind.u64.wrap ((b : Int) - 1) = ((b - 1 : Nat) : Int) := by rw [wrapU (by omega) (by omega)]; omega
      have ha := andU' b (b - 1) hb (by omega)
      have hk := (List.getElem?_eq_some_iff.1 h1).1
      rw [r_bits_all_1_0]
      simp [b_bits_all_1_0, h0, h1, ieq, ine, e, e', hl, hY pre b (by omega), hw, ha, wr_lt hk]
      have hs := hS (pre ++ [Go.Lib.ctz 64 b]) b (lowc b)
      unfold lsts
      rw [if_neg e]
      simp only [uv, lowc] at hs ih ⊢
      rw [hs, ih]
      simp
theorem allF (b : Nat) (h : List Ob) : acw C n_bits_all [uv b] h = some (.ret (.fn (.func n_bits_all_1) [] [.ptr h.length 0 0 1]), h ++ [.row 1 [uv b]]) := by
  rw [acw_hm (CT T_bits_all) rfl]
  simp [runW_fin, F_bits_all, i_bits_all]
abbrev nsV (pre : List Nat) : List V := pre.map fun n : Nat => iv (n : Int)
abbrev accL (pre : List Nat) (b : Nat) : List Ob := accH 1 [.row 1 [accV 1 3 (nsV pre)], .row 1 [uv b], .lp .rdy] (nsV pre)
abbrev frL : Fr := [(2, .nsl 1), (3, .ptr 0 0 0 1), (6, .fn (.func n_bits_all_1) [] [.ptr 1 0 0 1])]
theorem list_round (pre : List Nat) (b n : Nat) (hx : pre.length ≤ 1000000000000) : rnd (evw C y0 ra_bits_List_0) (evw C y0 rb_bits_List_0) 2 [7] frL [.mp 2, iv n] (accL pre b) = some (.ret (.bool true), accL (pre ++ [n]) b) := by
  have k4 : bsfL (.int .i64 0) [iv n] = some (.sl 1 [iv n]) := rfl
  cases pre with
  | nil =>
    have k5 : ∀ nid, appV nid [.row 1 [.nsl 1], .row 1 [uv b], .lp .bsy] 1 8 (.nsl 1) (.sl 1 [iv n]) = some (.own nid 0 1 1, some (nid, .row 1 [iv n])) := fun nid => appV_nsl rfl (by simp) rfl (by simp) (by simp)
    simp [accV, accH, ra_bits_List_0, rb_bits_List_0, k4, k5]
  | cons a r =>
    have k5 : ∀ nid, appV nid [.row 1 [.own 3 0 (r.length + 1) (r.length + 1)], .row 1 [uv b], .lp .bsy, .row 1 (iv a :: nsV r)] 1 8 (.own 3 0 (r.length + 1) (r.length + 1)) (.sl 1 [iv n]) = some (.own 3 0 (r.length + 1 + 1) (r.length + 1 + 1), some (3, .row 1 (iv a :: nsV r ++ [iv n]))) := fun nid => appV_own rfl (by simp) rfl (by simp) (by simp) (by simp at hx ⊢; omega) (by simp at hx ⊢; omega)
    simp [accV, accH, ra_bits_List_0, rb_bits_List_0, k4, k5]
theorem bits_List (b : Nat) (hb : b < 18446744073709551616) (hd : done 64 b) (h : List Ob) : acw C n_bits_List [uv b] h = some (.ret (.sl 1 (nsV (lsts 64 b))), h) := by
  have key : itw C (rnd (evw C y0 ra_bits_List_0) (evw C y0 rb_bits_List_0) 2 [7] frL) n_bits_all_1 [.mp 2, .ptr 1 0 0 1] (accL [] b) = some (.ret (.tup []), accL (lsts 64 b) 0) := by
    rw [itw_T (CT T_bits_all_1)]
    have h0 := all_loop (rnd (evw C y0 ra_bits_List_0) (evw C y0 rb_bits_List_0) 2 [7] frL) 2 1 accL (fun pre b hp => list_round pre b _ (by omega)) (fun pre b => by
      unfold accL accH; split <;> rfl) (fun pre b b' => by unfold accL accH; split <;> rfl) 64 b [] hb hd (by simp)
    simp [runW_fin, F_bits_all_1, i_bits_all_1] at h0 ⊢
    rw [h0]
    simp
  obtain ⟨l, hl⟩ : ∃ l, l = lsts 64 b := ⟨_, rfl⟩
  rw [← hl] at key ⊢
  have ha := allF b [.row 1 [.nsl 1]]
  simp at ha
  by_cases e : l = []
  · subst e
    simp [accV, accH] at key
    refine acw_pure (a2 := [uv b]) (h' := [.row 1 [.nsl 1], .row 1 [uv 0], .dead]) (v := .nsl 1) (CT T_bits_List) rfl rfl ?_ rfl (by simp)
    simp [runW_fin, F_bits_List, i_bits_List, ha, key]
  · simp [accV, accH, e] at key
    refine acw_pure (a2 := [uv b]) (h' := [.row 1 [.own 3 0 l.length l.length], .row 1 [uv 0], .dead, .row 1 (nsV l)]) (v := .own 3 0 l.length l.length) (CT T_bits_List) rfl rfl ?_ ?_ (by simp)
    · simp [runW_fin, F_bits_List, i_bits_List, ha, key]
    · have := frz_own_ints (h := [.row 1 [.own 3 0 l.length l.length], .row 1 [uv 0], .dead, .row 1 (nsV l)]) (id := 3) (n := l.length) (l := l.map fun n : Nat => (n : Int)) (by simp) (by simp) 10
      rw [show fdepth = 10 + 2 from rfl, this]
      simp
end Go.RR.M
set_option linter.unusedVariables false
set_option linter.unusedSimpArgs false
set_option maxRecDepth 100000
namespace Go.RR
def val : List Nat → Nat
  | [] => 0
  | a :: r => a + 256 * val r
def repB (m : Nat) : Nat → Nat
  | 0 => 0
  | k + 1 => m + 256 * repB m k
theorem and_split (a c m M : Nat) (ha : a < 256) (hm : m < 256) : (a + 256 * c) &&& (m + 256 * M) = (a &&& m) + 256 * (c &&& M) := by
  have h8 : (256 : Nat) = 2 ^ 8 := rfl
  have hx : a &&& m < 2 ^ 8 := Nat.and_lt_two_pow _ (by omega)
  apply Nat.eq_of_testBit_eq
  intro i
  rw [Nat.testBit_and, Nat.add_comm a, Nat.add_comm m, Nat.add_comm (a &&& m), h8, Nat.testBit_two_pow_mul_add c (by omega) i, Nat.testBit_two_pow_mul_add M (by omega) i, Nat.testBit_two_pow_mul_add (c &&& M) hx i]
  split
  · rw [Nat.testBit_and]
  · rw [Nat.testBit_and]
def b1 (a : Nat) : Nat := (a / 2 &&& 85) + (a &&& 85)
def b2 (a : Nat) : Nat := (a / 4 &&& 51) + (a &&& 51)
def b3 (a : Nat) : Nat := (a / 16 + a) &&& 15
theorem b1_lt : ∀ a : Fin 256, b1 a.val < 256 := by decide +kernel
theorem b2_lt : ∀ a : Fin 256, b2 a.val < 256 := by decide +kernel
theorem b21_ok : ∀ a : Fin 256, b2 (b1 a.val) ≤ 68 ∧ b2 (b1 a.val) % 16 ≤ 4 := by decide +kernel
theorem b1_low : ∀ (a : Fin 256) (c : Fin 2), (a.val / 2 + 128 * c.val) &&& 85 = a.val / 2 &&& 85 := by decide +kernel
theorem b2_low : ∀ (a : Fin 256) (c : Fin 4), (a.val / 4 + 64 * c.val) &&& 51 = a.val / 4 &&& 51 := by decide +kernel
theorem b3_low : ∀ (a : Fin 69) (c : Fin 5), (a.val / 16 + 16 * c.val + a.val) &&& 15 = (a.val / 16 + a.val) &&& 15 := by decide +kernel
theorem pc_eq : ∀ a : Fin 256, b3 (b2 (b1 a.val)) = Go.Lib.popAux 8 a.val ∧ Go.Lib.popAux 8 a.val ≤ 8 := by decide +kernel
def okB (l : List Nat) : Prop := ∀ a ∈ l, a < 256
theorem st1 : ∀ (l : List Nat), okB l → ((val l / 2) &&& repB 85 l.length) + (val l &&& repB 85 l.length) = val (l.map b1)
  | [], _ => rfl
  | a :: r, h => by
    have ha := h a (by simp)
    have ih := st1 r fun x hx => h x (by simp [hx])
    simp only [val, List.length_cons, repB, List.map_cons]
    have e : (a + 256 * val r) / 2 = (a / 2 + 128 * (val r % 2)) + 256 * (val r / 2) := by omega
    have e2 : (a / 2 + 128 * (val r % 2)) &&& 85 = a / 2 &&& 85 := b1_low ⟨a, ha⟩ ⟨val r % 2, by omega⟩
    rw [e, and_split _ _ _ _ (by omega) (by omega), and_split _ _ _ _ ha (by omega), e2, ← ih, b1]
    omega
theorem st2 : ∀ (l : List Nat), okB l → ((val l / 4) &&& repB 51 l.length) + (val l &&& repB 51 l.length) = val (l.map b2)
  | [], _ => rfl
  | a :: r, h => by
    have ha := h a (by simp)
    have ih := st2 r fun x hx => h x (by simp [hx])
    simp only [val, List.length_cons, repB, List.map_cons]
    have e : (a + 256 * val r) / 4 = (a / 4 + 64 * (val r % 4)) + 256 * (val r / 4) := by omega
    have e2 : (a / 4 + 64 * (val r % 4)) &&& 51 = a / 4 &&& 51 := b2_low ⟨a, ha⟩ ⟨val r % 4, by omega⟩
    rw [e, and_split _ _ _ _ (by omega) (by omega), and_split _ _ _ _ ha (by omega), e2, ← ih, b2]
    omega
theorem val_mod : ∀ (l : List Nat), (∀ a ∈ l, a ≤ 68 ∧ a % 16 ≤ 4) → val l % 16 ≤ 4
  | [], _ => by simp [val]
  | a :: r, h => by
    have := h a (by simp)
    simp only [val]
    omega
theorem st3 : ∀ (l : List Nat), (∀ a ∈ l, a ≤ 68 ∧ a % 16 ≤ 4) → (val l / 16 + val l) &&& repB 15 l.length = val (l.map b3)
  | [], _ => rfl
  | a :: r, h => by
    have ha := h a (by simp)
    have hr : ∀ a ∈ r, a ≤ 68 ∧ a % 16 ≤ 4 := fun x hx => h x (by simp [hx])
    have ih := st3 r hr
    have hm := val_mod r hr
    simp only [val, List.length_cons, repB, List.map_cons]
    have e : (a + 256 * val r) / 16 + (a + 256 * val r) = (a / 16 + 16 * (val r % 16) + a) + 256 * (val r / 16 + val r) := by omega
    rw [e, and_split _ _ _ _ (by omega) (by omega), b3_low ⟨a, by omega⟩ ⟨val r % 16, by omega⟩, ih, b3]
theorem pop_add (k n : Nat) : ∀ (a c : Nat), a < 2 ^ k → Go.Lib.popAux (k + n) (a + 2 ^ k * c) = Go.Lib.popAux k a + Go.Lib.popAux n c := by
  induction k with
  | zero => intro a c h; simp at h; subst h; simp [Go.Lib.popAux]
  | succ k ih =>
    intro a c h
    rw [Nat.pow_succ] at h ⊢
    rw [show k + 1 + n = k + n + 1 by omega, Go.Lib.popAux, Go.Lib.popAux, show 2 ^ k * 2 * c = 2 * (2 ^ k * c) by rw [Nat.mul_comm (2 ^ k) 2, Nat.mul_assoc], show (a + 2 * (2 ^ k * c)) / 2 = a / 2 + 2 ^ k * c by omega, ih (a / 2) c (by omega)]
    omega
theorem pop_val : ∀ (l : List Nat), okB l → Go.Lib.popAux (8 * l.length) (val l) = (l.map (Go.Lib.popAux 8)).sum
  | [], _ => rfl
  | a :: r, h => by
    have ha := h a (by simp)
    have ih := pop_val r fun x hx => h x (by simp [hx])
    rw [List.length_cons, show 8 * (r.length + 1) = 8 + 8 * r.length by omega]
    show Go.Lib.popAux _ (a + 2 ^ 8 * val r) = _
    rw [pop_add 8 (8 * r.length) a (val r) ha, ih]
    rfl
def bytesN : Nat → Nat → List Nat
  | 0, _ => []
  | n + 1, x => x % 256 :: bytesN n (x / 256)
theorem bytesN_len : ∀ n x, (bytesN n x).length = n
  | 0, _ => rfl
  | n + 1, x => by simp [bytesN, bytesN_len n]
theorem bytesN_ok : ∀ n x, okB (bytesN n x)
  | 0, _ => by simp [okB, bytesN]
  | n + 1, x => fun a ha => by
    rcases List.mem_cons.1 ha with rfl | ha
    · omega
    · exact bytesN_ok n _ a ha
theorem bytesN_val : ∀ n x, x < 256 ^ n → val (bytesN n x) = x
  | 0, x, h => by simp at h; simp [bytesN, val, h]
  | n + 1, x, h => by
    rw [Nat.pow_succ] at h
    have := bytesN_val n (x / 256) (by omega)
    simp only [bytesN, val, this]
    omega
theorem s8a (c0 T1 : Nat) (h : c0 ≤ 8) : (c0 + 256 * T1) / 256 = T1 := by omega
theorem s8b (c0 c1 c2 c3 T3 T2 T1 T0 : Nat) (h : c0 ≤ 8 ∧ c1 ≤ 8 ∧ c2 ≤ 8) (e2 : T2 = c2 + 256 * T3) (e1 : T1 = c1 + 256 * T2) (e0 : T0 = c0 + 256 * T1) : (T0 + T1) / 65536 = T2 + T3 := by omega
theorem s8d (c0 c1 c2 c3 T4 T3 T2 T1 T0 : Nat) (e3 : T3 = c3 + 256 * T4) (e2 : T2 = c2 + 256 * T3) (e1 : T1 = c1 + 256 * T2) (e0 : T0 = c0 + 256 * T1) : T0 = (c0 + 256 * c1 + 65536 * c2 + 16777216 * c3) + 4294967296 * T4 := by omega
theorem s8c (l0 l1 l2 l3 T4 T5 T6 T7 T0 T1 T2 T3 : Nat) (h : l0 ≤ 134744072 ∧ l1 ≤ 134744072 ∧ l2 ≤ 134744072 ∧ l3 ≤ 134744072) (e0 : T0 = l0 + 4294967296 * T4) (e1 : T1 = l1 + 4294967296 * T5) (e2 : T2 = l2 + 4294967296 * T6) (e3 : T3 = l3 + 4294967296 * T7) : (T0 + T1 + (T2 + T3)) / 4294967296 = T4 + T5 + T6 + T7 := by omega
theorem s8e (s T : Nat) (h : s ≤ 64) : (s + 256 * T) % 128 = s := by omega
theorem sum8 (c0 c1 c2 c3 c4 c5 c6 c7 : Nat) (h : c0 ≤ 8 ∧ c1 ≤ 8 ∧ c2 ≤ 8 ∧ c3 ≤ 8 ∧ c4 ≤ 8 ∧ c5 ≤ 8 ∧ c6 ≤ 8 ∧ c7 ≤ 8) (t u w : Nat) (ht : t = c0 + 256 * (c1 + 256 * (c2 + 256 * (c3 + 256 * (c4 + 256 * (c5 + 256 * (c6 + 256 * c7))))))) (hu : u = t + t / 256) (hw : w = u + u / 65536) :
    t ≤ 578721382704613384 ∧ (w + w / 4294967296) % 128 = c0 + (c1 + (c2 + (c3 + (c4 + (c5 + (c6 + c7)))))) := by
  obtain ⟨h0, h1, h2, h3, h4, h5, h6, h7⟩ := h
  obtain ⟨T7, e7⟩ : ∃ T, T = c7 := ⟨_, rfl⟩
  rw [← e7] at ht
  obtain ⟨T6, e6⟩ : ∃ T, T = c6 + 256 * T7 := ⟨_, rfl⟩
  rw [← e6] at ht
  obtain ⟨T5, e5⟩ : ∃ T, T = c5 + 256 * T6 := ⟨_, rfl⟩
  rw [← e5] at ht
  obtain ⟨T4, e4⟩ : ∃ T, T = c4 + 256 * T5 := ⟨_, rfl⟩
  rw [← e4] at ht
  obtain ⟨T3, e3⟩ : ∃ T, T = c3 + 256 * T4 := ⟨_, rfl⟩
  rw [← e3] at ht
  obtain ⟨T2, e2⟩ : ∃ T, T = c2 + 256 * T3 := ⟨_, rfl⟩
  rw [← e2] at ht
  obtain ⟨T1, e1⟩ : ∃ T, T = c1 + 256 * T2 := ⟨_, rfl⟩
  rw [← e1] at ht
  have hb : t ≤ 578721382704613384 := by
    have b7 : T7 ≤ 8 := by omega
    have b6 : T6 ≤ 2056 := by omega
    have b5 : T5 ≤ 526344 := by omega
    have b4 : T4 ≤ 134744072 := by omega
    have b3 : T3 ≤ 34494482440 := by clear b5 b6 b7; omega
    have b2 : T2 ≤ 8830587504648 := by clear b5 b6 b7 b4; omega
    have b1 : T1 ≤ 2260630401189896 := by clear b5 b6 b7 b4 b3; omega
    clear b5 b6 b7 b4 b3 b2
    omega
  refine ⟨hb, ?_⟩
  rw [show t / 256 = T1 by rw [ht]; exact s8a c0 T1 h0] at hu
  have hu2 : u / 65536 = T2 + T3 := by rw [hu]; exact s8b c0 c1 c2 c3 T3 T2 T1 t ⟨h0, h1, h2⟩ e2 e1 ht
  rw [hu2, hu] at hw
  have q0 := s8d c0 c1 c2 c3 T4 T3 T2 T1 t e3 e2 e1 ht
  have q1 := s8d c1 c2 c3 c4 T5 T4 T3 T2 T1 e4 e3 e2 e1
  have q2 := s8d c2 c3 c4 c5 T6 T5 T4 T3 T2 e5 e4 e3 e2
  have q3 := s8d c3 c4 c5 c6 T7 T6 T5 T4 T3 e6 e5 e4 e3
  have hw2 : w / 4294967296 = T4 + T5 + T6 + T7 := by
    rw [hw]
    refine s8c _ _ _ _ T4 T5 T6 T7 t T1 T2 T3 ⟨?_, ?_, ?_, ?_⟩ q0 q1 q2 q3
    · clear q0 q1 q2 q3 hw hu hu2 ht hb e1 e2 e3 e4 e5 e6 e7; omega
    · clear q0 q1 q2 q3 hw hu hu2 ht hb e1 e2 e3 e4 e5 e6 e7; omega
    · clear q0 q1 q2 q3 hw hu hu2 ht hb e1 e2 e3 e4 e5 e6 e7; omega
    · clear q0 q1 q2 q3 hw hu hu2 ht hb e1 e2 e3 e4 e5 e6 e7; omega
  have e : w + w / 4294967296 = (c0 + (c1 + (c2 + (c3 + (c4 + (c5 + (c6 + c7))))))) + 256 * (T1 + T2 + T3 + T4 + T5 + T6 + T7) := by
    rw [hw2, hw]
    clear q0 q1 q2 q3 hw hu hu2 hb hw2
    omega
  rw [e]
  refine s8e _ _ ?_
  clear q0 q1 q2 q3 hw hu hu2 ht hb hw2 e e1 e2 e3 e4 e5 e6 e7
  omega
theorem list8 {l : List Nat} (h : l.length = 8) : ∃ a0 a1 a2 a3 a4 a5 a6 a7, l = [a0, a1, a2, a3, a4, a5, a6, a7] := by
  obtain ⟨a0, l, rfl⟩ := List.exists_cons_of_length_eq_add_one h
  obtain ⟨a1, l, rfl⟩ := List.exists_cons_of_length_eq_add_one (n := 6) (by simpa using h)
  obtain ⟨a2, l, rfl⟩ := List.exists_cons_of_length_eq_add_one (n := 5) (by simpa using h)
  obtain ⟨a3, l, rfl⟩ := List.exists_cons_of_length_eq_add_one (n := 4) (by simpa using h)
  obtain ⟨a4, l, rfl⟩ := List.exists_cons_of_length_eq_add_one (n := 3) (by simpa using h)
  obtain ⟨a5, l, rfl⟩ := List.exists_cons_of_length_eq_add_one (n := 2) (by simpa using h)
  obtain ⟨a6, l, rfl⟩ := List.exists_cons_of_length_eq_add_one (n := 1) (by simpa using h)
  obtain ⟨a7, l, rfl⟩ := List.exists_cons_of_length_eq_add_one (n := 0) (by simpa using h)
  obtain rfl : l = [] := by simpa using h
  exact ⟨_, _, _, _, _, _, _, _, rfl⟩
theorem bound8 (l : List Nat) (h : l.length = 8) (m : Nat) (hm : ∀ a ∈ l, a ≤ m) : val l ≤ m * 72340172838076673 := by
  obtain ⟨a0, a1, a2, a3, a4, a5, a6, a7, rfl⟩ := list8 h
  simp only [List.mem_cons, List.not_mem_nil, or_false, forall_eq_or_imp, forall_eq] at hm
  simp only [val]
  omega
/-- so many ones -/
theorem ones_eq (x y z t : Nat) (hx : x < 18446744073709551616) (hy : y = (x / 2 &&& 6148914691236517205) + (x &&& 6148914691236517205)) (hz : z = (y / 4 &&& 3689348814741910323) + (y &&& 3689348814741910323)) (ht : t = (z / 16 + z) &&& 1085102592571150095) :
    y < 18446744073709551616 ∧ z ≤ 4919131752989213764 ∧ t ≤ 578721382704613384 ∧ ((t + t / 256) + (t + t / 256) / 65536 + ((t + t / 256) + (t + t / 256) / 65536) / 4294967296) % 128 = Go.Lib.popAux 64 x := by
  obtain ⟨l, hl⟩ : ∃ l, l = bytesN 8 x := ⟨_, rfl⟩
  have hlen : l.length = 8 := by rw [hl, bytesN_len]
  have hok : okB l := by rw [hl]; exact bytesN_ok 8 x
  have hv : val l = x := by rw [hl]; exact bytesN_val 8 x (by simpa using hx)
  have h1 := st1 l hok
  have hok1 : okB (l.map b1) := fun a ha => by
    obtain ⟨b, hb, rfl⟩ := List.mem_map.1 ha
    exact b1_lt ⟨b, hok b hb⟩
  have h2 := st2 (l.map b1) hok1
  have hok2 : ∀ a ∈ (l.map b1).map b2, a ≤ 68 ∧ a % 16 ≤ 4 := fun a ha => by
    rw [List.map_map] at ha
    obtain ⟨b, hb, rfl⟩ := List.mem_map.1 ha
    exact b21_ok ⟨b, hok b hb⟩
  have h3 := st3 ((l.map b1).map b2) hok2
  have h4 := pop_val l hok
  simp only [List.length_map, hlen] at h1 h2 h3 h4
  rw [hv, show repB 85 8 = 6148914691236517205 from rfl, ← hy] at h1
  rw [← h1, show repB 51 8 = 3689348814741910323 from rfl, ← hz] at h2
  rw [← h2, show repB 15 8 = 1085102592571150095 from rfl, ← ht] at h3
  rw [hv] at h4
  have hm : ((l.map b1).map b2).map b3 = l.map (Go.Lib.popAux 8) := by
    rw [List.map_map, List.map_map]
    exact List.map_congr_left fun a ha => (pc_eq ⟨a, hok a ha⟩).1
  rw [hm] at h3
  have g1 := bound8 (l.map b1) (by simpa using hlen) 255 fun a ha => by have := hok1 a ha; omega
  have g2 := bound8 ((l.map b1).map b2) (by simpa using hlen) 68 fun a ha => (hok2 a ha).1
  rw [← h1] at g1
  rw [← h2] at g2
  refine ⟨by omega, by omega, ?_⟩
  obtain ⟨a0, a1, a2, a3, a4, a5, a6, a7, e⟩ := list8 hlen
  have q : ∀ a ∈ l, Go.Lib.popAux 8 a ≤ 8 := fun a ha => (pc_eq ⟨a, hok a ha⟩).2
  rw [e] at q h3 h4
  simp only [List.mem_cons, List.not_mem_nil, or_false, forall_eq_or_imp, forall_eq] at q
  simp only [List.map_cons, List.map_nil, val, Nat.mul_zero, Nat.add_zero] at h3
  simp only [List.map_cons, List.map_nil, List.sum_cons, List.sum_nil, Nat.add_zero] at h4
  rw [show 8 * 8 = 64 from rfl] at h4
  rw [h4]
  exact sum8 _ _ _ _ _ _ _ _ q t _ _ h3 rfl rfl
/-- the greatest place -/
theorem posL_last : ∀ (n b : Nat), b < 2 ^ n → b ≠ 0 → (posL n b).getLast? = some (Go.Lib.bitLenAux n b - 1)
  | 0, b, h, h0 => by simp at h; omega
  | n + 1, b, h, h0 => by
    rw [Nat.pow_succ] at h
    rw [Go.Lib.bitLenAux, if_neg h0]
    by_cases c : b / 2 = 0
    · have : b = 1 := by omega
      subst this
      have e : Go.Lib.bitLenAux n 0 = 0 := by cases n <;> simp [Go.Lib.bitLenAux]
      simp [posL, posL_zero, e]
    · have ih := posL_last n (b / 2) (by omega) c
      have hb : 1 ≤ Go.Lib.bitLenAux n (b / 2) := by
        cases n with
        | zero => simp at h; omega
        | succ n => rw [Go.Lib.bitLenAux, if_neg c]; omega
      have e : ((posL n (b / 2)).map (· + 1)).getLast? = some (1 + Go.Lib.bitLenAux n (b / 2) - 1) := by
        rw [List.getLast?_map, ih]
        simp; omega
      unfold posL
      split
      · rw [List.getLast?_cons, e]
        rfl
      · exact e
end Go.RR
set_option linter.unusedVariables false
set_option linter.unusedSimpArgs false
set_option maxRecDepth 100000
namespace Go.RR
structure Dm where
  vals : List Int
  live : Nat
  deriving DecidableEq, Inhabited
abbrev domV (d : Dm) : V := .agg [intsV d.vals, .int .u64 (d.live : Nat)]
/-- rising numbers -/
def rising : Option Int → List Int → Bool
  | _, [] => true
  | p, v :: r => decide (-1048576 ≤ v) && decide (v ≤ 1048576) && (match p with
    | none => true
    | some q => decide (q < v)) && rising (some v) r
def mayD (d : Dm) : Bool := decide (d.vals.length ≤ 64) && decide (d.live < 2 ^ d.vals.length) && rising none d.vals
def listD (d : Dm) : List Int := if mayD d = true then leftR d.vals d.live else []
def sizeD (d : Dm) : Nat := (listD d).length
def keptD (p : Int → Bool) (d : Dm) : Dm := if mayD d = true then ⟨d.vals, keepB p d.vals d.live⟩ else ⟨[], 0⟩
theorem mayD_iff {d : Dm} : mayD d = true ↔ d.vals.length ≤ 64 ∧ d.live < 2 ^ d.vals.length ∧ rising none d.vals = true := by
  unfold mayD
  simp only [Bool.and_eq_true, decide_eq_true_eq]
  exact and_assoc
/-- ones, one by one -/
def valB : List Bool → Nat
  | [] => 0
  | b :: r => b.toNat + 2 * valB r
def keepL (p : Int → Bool) : List Int → Nat → List Bool
  | [], _ => []
  | v :: r, b => (b % 2 == 1 && p v) :: keepL p r (b / 2)
theorem keepL_len (p : Int → Bool) : ∀ (l : List Int) (b : Nat), (keepL p l b).length = l.length
  | [], _ => rfl
  | v :: r, b => by simp [keepL, keepL_len p r]
theorem valB_false : ∀ n, valB (List.replicate n false) = 0
  | 0 => rfl
  | n + 1 => by simp [List.replicate_succ, valB, valB_false n]
theorem valB_lt : ∀ l : List Bool, valB l < 2 ^ l.length
  | [] => by simp [valB]
  | b :: r => by
    have := valB_lt r
    rw [List.length_cons, Nat.pow_succ, valB]
    cases b <;> simp <;> omega
theorem valB_keep (p : Int → Bool) (m : Nat) : ∀ (l : List Int) (b : Nat), valB (keepL p l b ++ List.replicate m false) = keepB p l b
  | [], b => by simp [keepL, keepB, valB_false]
  | v :: r, b => by
    rw [keepL, List.cons_append, valB, valB_keep p m r, keepB]
    by_cases c : b % 2 = 1 <;> cases p v <;> simp [c]
theorem keepB_all : ∀ (l : List Int) (b : Nat), b < 2 ^ l.length → keepB (fun _ => true) l b = b
  | [], b, h => by simp at h; simp [keepB, h]
  | v :: r, b, h => by
    rw [List.length_cons, Nat.pow_succ] at h
    rw [keepB, keepB_all r (b / 2) (by omega)]
    by_cases c : b % 2 = 1
    · simp [c]; omega
    · simp [c]; omega
theorem keepB_odd (p : Int → Bool) (v : Int) (r : List Int) (b : Nat) : keepB p (v :: r) b % 2 = (if b % 2 = 1 ∧ p v = true then 1 else 0) ∧ keepB p (v :: r) b / 2 = keepB p r (b / 2) := by
  rw [keepB]
  split <;> constructor <;> omega
theorem keepB_keepB (p q : Int → Bool) : ∀ (l : List Int) (b : Nat), keepB p l (keepB q l b) = keepB (fun v => q v && p v) l b
  | [], b => rfl
  | v :: r, b => by
    obtain ⟨h1, h2⟩ := keepB_odd q v r b
    rw [keepB, h1, h2, keepB_keepB p q r, keepB]
    congr 1
    by_cases c : b % 2 = 1 <;> cases q v <;> cases p v <;> simp [c]
theorem leftR_keep (p : Int → Bool) : ∀ (l : List Int) (b : Nat), leftR l (keepB p l b) = (leftR l b).filter p
  | [], b => rfl
  | v :: r, b => by
    obtain ⟨h1, h2⟩ := keepB_odd p v r b
    rw [leftR, h1, h2, leftR_keep p r, leftR]
    by_cases c : b % 2 = 1
    · cases hp : p v <;> simp [c, hp]
    · simp [c]
theorem keepB_or (p q : Int → Bool) : ∀ (l : List Int) (b : Nat), keepB p l b ||| keepB q l b = keepB (fun v => p v || q v) l b
  | [], b => by simp [keepB]
  | v :: r, b => by
    obtain ⟨h1, h2⟩ := keepB_odd p v r b
    obtain ⟨h3, h4⟩ := keepB_odd q v r b
    obtain ⟨h5, h6⟩ := keepB_odd (fun v => p v || q v) v r b
    have e1 : (keepB p (v :: r) b ||| keepB q (v :: r) b) / 2 = keepB (fun v => p v || q v) (v :: r) b / 2 := by rw [Nat.or_div_two, h2, h4, h6, keepB_or p q r]
    have e2 : (keepB p (v :: r) b ||| keepB q (v :: r) b) % 2 = 1 ↔ keepB (fun v => p v || q v) (v :: r) b % 2 = 1 := by
      rw [Nat.or_mod_two_eq_one, h1, h3, h5]
      by_cases c : b % 2 = 1 <;> cases p v <;> cases q v <;> simp [c]
    omega
theorem keepB_and (p q : Int → Bool) : ∀ (l : List Int) (b : Nat), keepB p l b &&& keepB q l b = keepB (fun v => p v && q v) l b
  | [], b => by simp [keepB]
  | v :: r, b => by
    obtain ⟨h1, h2⟩ := keepB_odd p v r b
    obtain ⟨h3, h4⟩ := keepB_odd q v r b
    obtain ⟨h5, h6⟩ := keepB_odd (fun v => p v && q v) v r b
    have e1 : (keepB p (v :: r) b &&& keepB q (v :: r) b) / 2 = keepB (fun v => p v && q v) (v :: r) b / 2 := by rw [Nat.and_div_two, h2, h4, h6, keepB_and p q r]
    have e2 : (keepB p (v :: r) b &&& keepB q (v :: r) b) % 2 = 1 ↔ keepB (fun v => p v && q v) (v :: r) b % 2 = 1 := by
      rw [Nat.and_mod_two_eq_one, h1, h3, h5]
      by_cases c : b % 2 = 1 <;> cases p v <;> cases q v <;> simp [c]
    omega
theorem keepB_none : ∀ (l : List Int) (b : Nat), keepB (fun _ => false) l b = 0
  | [], b => rfl
  | v :: r, b => by simp [keepB, keepB_none r]
theorem leftR_head (l : List Int) (b : Nat) (hl : l.length ≤ 64) (hb : b < 2 ^ l.length) (h0 : b ≠ 0) : (leftR l b)[0]? = some (l.getD (Go.Lib.ctz 64 b) 0) := by
  have h64 : 2 ^ l.length ≤ 2 ^ 64 := Nat.pow_le_pow_right (by omega) hl
  have e : posL l.length b = lsts 64 b := (lsts_pos l.length 64 b hl hb hl).symm
  rw [← leftR_pos, e]
  show (List.map _ (lsts (63 + 1) b))[0]? = _
  rw [lsts, if_neg h0]
  rfl
theorem leftR_last (l : List Int) (b : Nat) (hl : l.length ≤ 64) (hb : b < 2 ^ l.length) (h0 : b ≠ 0) : (leftR l b).getLast? = some (l.getD (Go.Lib.bitLen b - 1) 0) := by
  rw [← leftR_pos, List.getLast?_map, posL_last _ _ hb h0]
  unfold Go.Lib.bitLen
  rw [Go.Lib.bitLenAux_fuel l.length b hb 64 hl]
  rfl
theorem leftR_nil (l : List Int) (b : Nat) (hb : b < 2 ^ l.length) : leftR l b = [] ↔ b = 0 := by
  rw [← leftR_pos, List.map_eq_nil_iff, posL_nil _ _ hb]
theorem leftR_size (l : List Int) (b : Nat) (hl : l.length ≤ 64) (hb : b < 2 ^ l.length) : Go.Lib.popAux 64 b = (leftR l b).length := by
  rw [leftR_len, ← posL_fuel l.length 64 b hb hl, posL_len]
theorem bitLen_bd (b : Nat) (n : Nat) (hn : n ≤ 64) (hb : b < 2 ^ n) (h0 : b ≠ 0) : 1 ≤ Go.Lib.bitLen b ∧ Go.Lib.bitLen b ≤ n := by
  refine ⟨?_, Go.Lib.bitLen_le b n hn hb⟩
  unfold Go.Lib.bitLen
  show 1 ≤ Go.Lib.bitLenAux (63 + 1) b
  rw [Go.Lib.bitLenAux, if_neg h0]
  omega
theorem ctz_lt (b n : Nat) (hn : n ≤ 64) (hb : b < 2 ^ n) (h0 : b ≠ 0) : Go.Lib.ctz 64 b < n := by
  have e : posL n b = lsts 64 b := (lsts_pos n 64 b hn hb hn).symm
  refine posL_lt n b _ ?_
  rw [e]
  show _ ∈ lsts (63 + 1) b
  rw [lsts, if_neg h0]
  simp
theorem rising_cons {p : Option Int} {v : Int} {r : List Int} (h : rising p (v :: r) = true) : -1048576 ≤ v ∧ v ≤ 1048576 ∧ (∀ q, p = some q → q < v) ∧ rising (some v) r = true := by
  cases p with
  | none => simp [rising] at h; exact ⟨h.1.1, h.1.2, by simp, h.2⟩
  | some q => simp [rising] at h; exact ⟨h.1.1.1, h.1.1.2, fun x e => by cases e; exact h.1.2, h.2⟩
theorem rising_all : ∀ {l : List Int} {p : Option Int}, rising p l = true → (∀ v ∈ l, -1048576 ≤ v ∧ v ≤ 1048576) ∧ l.Pairwise (· < ·) ∧ ∀ q, p = some q → ∀ v ∈ l, q < v
  | [], p, _ => ⟨by simp, .nil, by simp⟩
  | v :: r, p, h => by
    obtain ⟨h1, h2, h3, h4⟩ := rising_cons h
    obtain ⟨g1, g2, g3⟩ := rising_all h4
    refine ⟨fun x hx => ?_, List.pairwise_cons.2 ⟨g3 v rfl, g2⟩, fun q hq x hx => ?_⟩
    · rcases List.mem_cons.1 hx with rfl | hx
      · exact ⟨h1, h2⟩
      · exact g1 x hx
    · have := h3 q hq
      rcases List.mem_cons.1 hx with rfl | hx
      · exact this
      · have := g3 v rfl x hx; omega
end Go.RR
set_option linter.unusedVariables false
set_option linter.unusedSimpArgs false
set_option maxRecDepth 100000
set_option maxHeartbeats 4000000
namespace Go.RR
theorem orU' (a b : Nat) (ha : a < 18446744073709551616) (hb : b < 18446744073709551616) : IntKind.u64.wrap ((a % 2 ^ IntKind.u64.bits ||| b % 2 ^ IntKind.u64.bits : Nat) : Int) = ((a ||| b : Nat) : Int) := by
  rw [Nat.mod_eq_of_lt (show a < 2 ^ IntKind.u64.bits from ha), Nat.mod_eq_of_lt (show b < 2 ^ IntKind.u64.bits from hb)]
  have hx : a ||| b < 2 ^ 64 := Nat.or_lt_two_pow (by omega) (by omega)
  exact wrapU (by omega) (by omega)
end Go.RR
namespace Go.RR.M
open Go Go.RR
theorem blist (b : Nat) (hb : b < 18446744073709551616) (h : List Ob) : acw C n_bits_List [uv b] h = some (.ret (.sl 1 (nsV (posL 64 b))), h) := by
  have := bits_List b hb (done_pos 64 64 b hb (Nat.le_refl _)) h
  rw [lsts_pos 64 64 b (Nat.le_refl _) hb (Nat.le_refl _)] at this
  exact this
theorem fdU (x k : Nat) : ((x : Int)).fdiv (2 ^ k) = ((x / 2 ^ k : Nat) : Int) := by
  rw [show ((2 : Int) ^ k) = ((2 ^ k : Nat) : Int) by simp, Int.fdiv_eq_ediv_of_nonneg _ (Int.natCast_nonneg _)]
  exact (Int.natCast_ediv _ _).symm
theorem ones64 (x : Nat) (hx : x < 18446744073709551616) (h : List Ob) : acw C n_math_bits_OnesCount64 [uv x] h = some (.ret (iv (Go.Lib.popAux 64 x)), h) := by
  obtain ⟨q1, hq1⟩ : ∃ y, y = x / 2 := ⟨_, rfl⟩
  obtain ⟨p1, hp1⟩ : ∃ y, y = q1 &&& 6148914691236517205 := ⟨_, rfl⟩
  obtain ⟨p2, hp2⟩ : ∃ y, y = x &&& 6148914691236517205 := ⟨_, rfl⟩
  obtain ⟨y, hy⟩ : ∃ y, y = p1 + p2 := ⟨_, rfl⟩
  obtain ⟨q2, hq2⟩ : ∃ z, z = y / 4 := ⟨_, rfl⟩
  obtain ⟨p3, hp3⟩ : ∃ z, z = q2 &&& 3689348814741910323 := ⟨_, rfl⟩
  obtain ⟨p4, hp4⟩ : ∃ z, z = y &&& 3689348814741910323 := ⟨_, rfl⟩
  obtain ⟨z, hz⟩ : ∃ z, z = p3 + p4 := ⟨_, rfl⟩
  obtain ⟨q3, hq3⟩ : ∃ y, y = z / 16 := ⟨_, rfl⟩
  obtain ⟨s, hs⟩ : ∃ y, y = q3 + z := ⟨_, rfl⟩
  obtain ⟨t, ht⟩ : ∃ y, y = s &&& 1085102592571150095 := ⟨_, rfl⟩
  obtain ⟨q4, hq4⟩ : ∃ y, y = t / 256 := ⟨_, rfl⟩
  obtain ⟨u, hu⟩ : ∃ y, y = t + q4 := ⟨_, rfl⟩
  obtain ⟨q5, hq5⟩ : ∃ y, y = u / 65536 := ⟨_, rfl⟩
  obtain ⟨w, hw⟩ : ∃ y, y = u + q5 := ⟨_, rfl⟩
  obtain ⟨q6, hq6⟩ : ∃ y, y = w / 4294967296 := ⟨_, rfl⟩
  obtain ⟨v, hv⟩ : ∃ y, y = w + q6 := ⟨_, rfl⟩
  obtain ⟨h1, h2, h3, h4⟩ := ones_eq x y z t hx (by rw [hy, hp1, hp2, hq1]) (by rw [hz, hp3, hp4, hq2]) (by rw [ht, hs, hq3])
  obtain ⟨pc, hpc⟩ : ∃ y, y = Go.Lib.popAux 64 x := ⟨_, rfl⟩
  rw [← hpc] at h4 ⊢
  have h4' : v % 128 = pc := by rw [← h4, hv, hq6, hw, hq5, hu, hq4]
  have f1 : (x : Int).fdiv (2 ^ min 1 IntKind.u64.bits) = (q1 : Int) := by rw [hq1]; exact fdU x 1
  have f2 : (y : Int).fdiv (2 ^ min 2 IntKind.u64.bits) = (q2 : Int) := by rw [hq2]; exact fdU y 2
  have f3 : (z : Int).fdiv (2 ^ min 4 IntKind.u64.bits) = (q3 : Int) := by rw [hq3]; exact fdU z 4
  have f4 : (t : Int).fdiv (2 ^ min 8 IntKind.u64.bits) = (q4 : Int) := by rw [hq4]; exact fdU t 8
  have f5 : (u : Int).fdiv (2 ^ min 16 IntKind.u64.bits) = (q5 : Int) := by rw [hq5]; exact fdU u 16
  have f6 : (w : Int).fdiv (2 ^ min 32 IntKind.u64.bits) = (q6 : Int) := by rw [hq6]; exact fdU w 32
  have w0 : ∀ n : Nat, n < 18446744073709551616 → IntKind.u64.wrap (n : Int) = n := fun n hn => wrapU (by omega) (by omega)
  have g1 := w0 q1 (by omega)
  have g2 := w0 q2 (by omega)
  have g3 := w0 q3 (by omega)
  have g4 := w0 q4 (by omega)
  have g5 := w0 q5 (by omega)
  have g6 := w0 q6 (by omega)
  have a1 := andU' q1 6148914691236517205 (by omega) (by omega)
  have a2 := andU' x 6148914691236517205 (by omega) (by omega)
  have a3 := andU' q2 3689348814741910323 (by omega) (by omega)
  have a4 := andU' y 3689348814741910323 (by omega) (by omega)
  have a5 := andU' s 1085102592571150095 (by omega) (by omega)
  rw [← hp1] at a1
  rw [← hp2] at a2
  rw [← hp3] at a3
  rw [← hp4] at a4
  rw [← ht] at a5
  have s1 : IntKind.u64.wrap ((p1 : Int) + p2) = y := by rw [wrapU (by omega) (by omega)]; omega
  have s2 : IntKind.u64.wrap ((p3 : Int) + p4) = z := by rw [wrapU (by omega) (by omega)]; omega
  have s3 : IntKind.u64.wrap ((q3 : Int) + z) = s := by rw [wrapU (by omega) (by omega)]; omega
  have s4 : IntKind.u64.wrap ((t : Int) + q4) = u := by rw [wrapU (by omega) (by omega)]; omega
  have s5 : IntKind.u64.wrap ((u : Int) + q5) = w := by rw [wrapU (by omega) (by omega)]; omega
  have s6 : IntKind.u64.wrap ((w : Int) + q6) = v := by rw [wrapU (by omega) (by omega)]; omega
  have hvb : v < 9223372036854775808 := by omega
  have s7 : IntKind.i64.wrap (v : Int) = v := wrap64 (by omega) (by omega)
  have s8 : IntKind.i64.wrap ((v % 2 ^ IntKind.i64.bits &&& 127 % 2 ^ IntKind.i64.bits : Nat) : Int) = pc := by
    rw [Nat.mod_eq_of_lt (show v < 2 ^ IntKind.i64.bits from Nat.lt_of_lt_of_le hvb (by decide)), show 127 % 2 ^ IntKind.i64.bits = 2 ^ 7 - 1 from rfl, Nat.and_two_pow_sub_one_eq_mod, show 2 ^ 7 = 128 from rfl, h4']
    exact wrap64 (by omega) (by omega)
  refine acw_ex (v := iv pc) (CT T_math_bits_OnesCount64) rfl rfl (fun _ => rfl) (by simp) ?_
  clear hq1 hp1 hp2 hy hq2 hp3 hp4 hz hq3 hs ht hq4 hu hq5 hw hq6 hv h4 h4' hpc w0
  simp [runW_fin, F_math_bits_OnesCount64, i_math_bits_OnesCount64, f1, f2, f3, f4, f5, f6, g1, g2, g3, g4, g5, g6, a1, a2, a3, a4, a5, s1, s2, s3, s4, s5, s6, s7, s8]
theorem count (b : Nat) (hb : b < 18446744073709551616) (h : List Ob) : acw C n_bits_Count [uv b] h = some (.ret (iv (Go.Lib.popAux 64 b)), h) := by
  have k := ones64 b hb
  refine acw_ex (v := iv (Go.Lib.popAux 64 b)) (CT T_bits_Count) rfl rfl (fun _ => rfl) (by simp) ?_
  simp [runW_fin, F_bits_Count, i_bits_Count, k]
theorem len64 (b : Nat) (hb : b < 18446744073709551616) (h : List Ob) : acw C n_math_bits_Len64 [uv b] h = some (.ret (iv (Go.Lib.bitLen b)), h) := by
  refine acw_S (a2 := [uv b]) rfl rfl rfl ?_ rfl
  have h1 : (0 : Int) ≤ b ∧ (b : Int) < 18446744073709551616 := by omega
  simp only [C, S, if_neg (show ¬ n_math_bits_Len64 = n_slices_Clone_sint_int from by decide), if_neg (show ¬ n_math_bits_Len64 = n_math_bits_TrailingZeros64 from by decide), if_true, if_pos h1, Int.toNat_natCast]
theorem greatest (b : Nat) (hb : b < 18446744073709551616) (h : List Ob) : acw C n_bits_Greatest [uv b] h = some (.ret (iv (Go.Lib.bitLen b - 1)), h) := by
  have hl := Go.Lib.bitLen_le b 64 (Nat.le_refl _) hb
  have k1 := len64 b hb
  have w1 : IntKind.i64.wrap (64 - (Go.Lib.bitLen b : Int)) = 64 - Go.Lib.bitLen b := wrap64 (by omega) (by omega)
  have w2 : IntKind.i64.wrap (63 - (64 - (Go.Lib.bitLen b : Int))) = Go.Lib.bitLen b - 1 := by rw [wrap64 (by omega) (by omega)]; omega
  have k : ∀ h, acw C n_math_bits_LeadingZeros64 [uv b] h = some (.ret (iv (64 - Go.Lib.bitLen b)), h) := fun h => by
    refine acw_ex (v := iv (64 - Go.Lib.bitLen b)) (CT T_math_bits_LeadingZeros64) rfl rfl (fun _ => rfl) (by simp) ?_
    simp [runW_fin, F_math_bits_LeadingZeros64, i_math_bits_LeadingZeros64, k1, w1]
  refine acw_ex (v := iv (Go.Lib.bitLen b - 1)) (CT T_bits_Greatest) rfl rfl (fun _ => rfl) (by simp) ?_
  simp [runW_fin, F_bits_Greatest, i_bits_Greatest, k, w2]
theorem first (n : Nat) (hn : n ≤ 64) (h : List Ob) : acw C n_bits_First [iv n] h = some (.ret (uv (2 ^ n - 1)), h) := by
  refine acw_ex (v := uv (2 ^ n - 1)) (CT T_bits_First) rfl rfl (fun _ => rfl) (by simp) ?_
  by_cases c0 : n = 0
  · subst c0
    simp [runW_fin, F_bits_First, i_bits_First]
  have c0' : ¬ (n : Int) ≤ 0 := by omega
  by_cases c1 : n = 64
  · subst c1
    simp [runW_fin, F_bits_First, i_bits_First]
  have c1' : ¬ (64 : Int) ≤ n := by omega
  have hp : 2 ^ n ≤ 2 ^ 63 := Nat.pow_le_pow_right (by omega) (by omega)
  have hq : 0 < 2 ^ n := Nat.two_pow_pos n
  have hn0 : ¬ (n : Int) < 0 := by omega
  obtain ⟨P, hP⟩ : ∃ P, P = 2 ^ n := ⟨_, rfl⟩
  have w1 : IntKind.u64.wrap (2 ^ min n IntKind.u64.bits) = (P : Int) := by
    rw [show min n IntKind.u64.bits = n from Nat.min_eq_left (show n ≤ 64 by omega), show ((2 : Int) ^ n) = (P : Int) by rw [hP]; simp]
    exact wrapU (by omega) (by omega)
  have w2 : IntKind.u64.wrap ((P : Int) - 1) = ((P - 1 : Nat) : Int) := by rw [wrapU (by omega) (by omega)]; omega
  rw [← hP]
  simp [runW_fin, F_bits_First, i_bits_First, c0, c0', c1', hn0, w1, w2]
theorem bits_of (k : Nat) (hk : k < 64) (h : List Ob) : acw C n_bits_Of [.sl 1 [iv k]] h = some (.ret (uv (2 ^ k)), h) := by
  refine acw_ex (v := uv (2 ^ k)) (CT T_bits_Of) rfl rfl (fun _ => rfl) (by simp) ?_
  have hp : 2 ^ k ≤ 2 ^ 63 := Nat.pow_le_pow_right (by omega) (by omega)
  have l1 : ∀ a : Nat, a = 2 ^ k → evw C y0 i_bits_Of_l0 [(3, uv a), (6, .sl 1 [iv k]), (7, iv 1), (8, iv 1)] [] = some (.ext 0, [(3, uv a), (6, .sl 1 [iv k]), (7, iv 1), (8, iv 1), (9, .bool false)], []) := fun a _ => by
    rw [r_bits_Of_0]
    simp [b_bits_Of_0]
  have l0 : evw C y0 i_bits_Of_l0 [(3, .int .u64 0), (6, .sl 1 [iv k]), (7, iv 1), (8, iv 0)] [] = some (.ext 0, [(3, uv (2 ^ k)), (6, .sl 1 [iv k]), (7, iv 1), (8, iv 1), (9, .bool false)], []) := by
    have h1 : (k : Int) < 64 := by omega
    have hn0 : ¬ (k : Int) < 0 := by omega
    have l1 := l1 _ rfl
    obtain ⟨P, hP⟩ : ∃ P, P = 2 ^ k := ⟨_, rfl⟩
    have w1 : IntKind.u64.wrap (2 ^ min k IntKind.u64.bits) = (P : Int) := by
      rw [show min k IntKind.u64.bits = k from Nat.min_eq_left (show k ≤ 64 by omega), show ((2 : Int) ^ k) = (P : Int) by rw [hP]; simp]
      exact wrapU (by omega) (by omega)
    have w2 : IntKind.u64.wrap ((P : Int) % 2 ^ IntKind.u64.bits) = P := by
      rw [show ((2 : Int) ^ IntKind.u64.bits) = 18446744073709551616 from rfl, Int.emod_eq_of_lt (by omega) (by omega)]
      exact wrapU (by omega) (by omega)
    rw [← hP] at l1 ⊢
    rw [r_bits_Of_0, ← l1]
    simp [b_bits_Of_0, h1, hn0, w1, w2]
  simp [runW_fin, F_bits_Of, i_bits_Of, l0]
end Go.RR.M
set_option linter.unusedVariables false
set_option linter.unusedSimpArgs false
set_option maxRecDepth 100000
set_option maxHeartbeats 4000000
namespace Go.RR
theorem anU' (a b : Nat) (ha : a < 18446744073709551616) (hb : b < 18446744073709551616) : (IntKind.u64.wrap ((BitVec.ofInt IntKind.u64.bits (a : Int) &&& ~~~ BitVec.ofInt IntKind.u64.bits (b : Int)).toNat : Int) = 0) ↔ a &&& b = a := by
  show (IntKind.u64.wrap ((BitVec.ofInt 64 (a : Int) &&& ~~~ BitVec.ofInt 64 (b : Int)).toNat : Int) = 0) ↔ a &&& b = a
  rw [BitVec.ofInt_natCast, BitVec.ofInt_natCast]
  have hlt : (BitVec.ofNat 64 a &&& ~~~ BitVec.ofNat 64 b).toNat < 2 ^ 64 := BitVec.isLt _
  have hw : IntKind.u64.wrap ((BitVec.ofNat 64 a &&& ~~~ BitVec.ofNat 64 b).toNat : Int) = ((BitVec.ofNat 64 a &&& ~~~ BitVec.ofNat 64 b).toNat : Int) := wrapU (by omega) (by omega)
  have e3 : (BitVec.ofNat 64 a &&& BitVec.ofNat 64 b).toNat = a &&& b := by
    rw [BitVec.toNat_and, BitVec.toNat_ofNat, BitVec.toNat_ofNat, Nat.mod_eq_of_lt (show a < 2 ^ 64 from ha), Nat.mod_eq_of_lt (show b < 2 ^ 64 from hb)]
  have e4 : (BitVec.ofNat 64 a).toNat = a := by rw [BitVec.toNat_ofNat]; exact Nat.mod_eq_of_lt ha
  have key : (BitVec.ofNat 64 a &&& ~~~ BitVec.ofNat 64 b) = 0#64 ↔ BitVec.ofNat 64 a &&& BitVec.ofNat 64 b = BitVec.ofNat 64 a := by
    constructor
    · intro h
      apply BitVec.eq_of_getLsbD_eq
      intro i hi
      have := congrArg (fun v => v.getLsbD i) h
      simp only [BitVec.getLsbD_and, BitVec.getLsbD_not, BitVec.getLsbD_zero, hi, decide_true, Bool.true_and] at this ⊢
      revert this
      generalize (BitVec.ofNat 64 a).getLsbD i = p
      generalize (BitVec.ofNat 64 b).getLsbD i = q
      cases p <;> cases q <;> decide
    · intro h
      apply BitVec.eq_of_getLsbD_eq
      intro i hi
      have := congrArg (fun v => v.getLsbD i) h
      simp only [BitVec.getLsbD_and, BitVec.getLsbD_not, BitVec.getLsbD_zero, hi, decide_true, Bool.true_and] at this ⊢
      revert this
      generalize (BitVec.ofNat 64 a).getLsbD i = p
      generalize (BitVec.ofNat 64 b).getLsbD i = q
      cases p <;> cases q <;> decide
  rw [hw]
  constructor
  · intro h
    have h0 : (BitVec.ofNat 64 a &&& ~~~ BitVec.ofNat 64 b) = 0#64 := BitVec.eq_of_toNat_eq (by simp only [BitVec.toNat_zero]; omega)
    rw [← e3, key.1 h0, e4]
  · intro h
    have h0 : BitVec.ofNat 64 a &&& BitVec.ofNat 64 b = BitVec.ofNat 64 a := BitVec.eq_of_toNat_eq (by rw [e3, e4, h])
    rw [key.2 h0]
    rfl
theorem an_bin (a b : Nat) (ha : a < 18446744073709551616) (hb : b < 18446744073709551616) : ∃ A : Nat, bin .andNot (.int .u64 (a : Int)) (.int .u64 (b : Int)) = some (.int .u64 (A : Int)) ∧ (A = 0 ↔ a &&& b = a) := by
  have h := anU' a b ha hb
  have hlt : (BitVec.ofInt IntKind.u64.bits (a : Int) &&& ~~~ BitVec.ofInt IntKind.u64.bits (b : Int)).toNat < 2 ^ 64 := BitVec.isLt _
  have hw : IntKind.u64.wrap ((BitVec.ofInt IntKind.u64.bits (a : Int) &&& ~~~ BitVec.ofInt IntKind.u64.bits (b : Int)).toNat : Int) = ((BitVec.ofInt IntKind.u64.bits (a : Int) &&& ~~~ BitVec.ofInt IntKind.u64.bits (b : Int)).toNat : Int) := wrapU (by omega) (by omega)
  refine ⟨(BitVec.ofInt IntKind.u64.bits (a : Int) &&& ~~~ BitVec.ofInt IntKind.u64.bits (b : Int)).toNat, ?_, ?_⟩
  · simp only [bin, binI, if_true]
    rw [hw]
  · rw [hw] at h
    rw [← h]
    omega
theorem and_first (a n : Nat) : a &&& (2 ^ n - 1) = a ↔ a < 2 ^ n := by
  rw [Nat.and_two_pow_sub_one_eq_mod]
  constructor
  · intro h; rw [← h]; exact Nat.mod_lt _ (Nat.two_pow_pos n)
  · exact Nat.mod_eq_of_lt
end Go.RR
namespace Go.RR.M
open Go Go.RR
theorem may_loop (d : Dm) (hl : d.vals.length ≤ 64) : ∀ (k i : Nat) (p : Option Int), i + k = d.vals.length → (∀ (h : 0 < i) (h' : i - 1 < d.vals.length), p = some d.vals[i - 1]) → (i = 0 → p = none) →
    ∃ fr', evw C y0 i_dom_May_l0 [(1, .ptr 0 0 0 1), (20, intsV d.vals), (21, iv d.vals.length), (22, iv i)] [.row 2 [domV d]] = some (if rising p (d.vals.drop i) = true then (.ext 0, fr', [.row 2 [domV d]]) else (.ret, [(2, .bool false)], [.row 2 [domV d]]))
  | 0, i, p, e, hp, h0 => by
    obtain rfl : i = d.vals.length := by omega
    rw [r_dom_May_0, List.drop_length]
    refine ⟨[(1, .ptr 0 0 0 1), (20, intsV d.vals), (21, iv d.vals.length), (22, iv d.vals.length), (23, .bool false)], ?_⟩
    simp [b_dom_May_0, rising]
  | k + 1, i, p, e, hp, h0 => by
    have hlt : i < d.vals.length := by omega
    have h2 : (i : Int) < d.vals.length := by omega
    have h3 : d.vals[i]? = some d.vals[i] := by simp [hlt]
    have hw := wrap_succ (i := i) (n := d.vals.length) hlt (by omega)
    obtain ⟨fr', ih⟩ := may_loop d hl k (i + 1) (some d.vals[i]) (by omega) (fun _ _ => rfl) (by omega)
    simp only [Int.natCast_add, Int.cast_ofNat_Int] at ih
    rw [r_dom_May_0, List.drop_eq_getElem_cons hlt]
    simp only [rising]
    by_cases c1 : d.vals[i] < -1048576
    · have c1' : ¬ (-1048576 ≤ d.vals[i]) := by omega
      exact ⟨[], by simp [b_dom_May_0, h2, h3, c1, c1']⟩
    have c1' : -1048576 ≤ d.vals[i] := by omega
    by_cases c2 : 1048576 < d.vals[i]
    · have c2' : ¬ (d.vals[i] ≤ 1048576) := by omega
      exact ⟨[], by simp [b_dom_May_0, h2, h3, c1, c1', c2, c2']⟩
    have c2' : d.vals[i] ≤ 1048576 := by omega
    by_cases c4 : 0 < i
    · have hlt' : i - 1 < d.vals.length := by omega
      have hp1 := hp c4 hlt'
      subst hp1
      have w2 : IntKind.i64.wrap ((i : Int) - 1) = ((i - 1 : Nat) : Int) := by rw [wrap64 (by omega) (by omega)]; omega
      have h5 : d.vals[i - 1]? = some d.vals[i - 1] := by simp [hlt']
      by_cases c5 : d.vals[i] ≤ d.vals[i - 1]
      · have c5' : ¬ (d.vals[i - 1] < d.vals[i]) := by omega
        exact ⟨[], by simp [b_dom_May_0, h2, h3, c1, c1', c2, c2', c4, w2, h5, c5, c5']⟩
      · have c5' : d.vals[i - 1] < d.vals[i] := by omega
        refine ⟨fr', ?_⟩
        simp only [c1', c2', c5', decide_true, Bool.true_and, ← ih]
        simp [b_dom_May_0, h2, h3, c1, c2, c4, w2, h5, c5, hw]
    · have hi0 : i = 0 := by omega
      have hp0 := h0 hi0
      subst hp0
      refine ⟨fr', ?_⟩
      simp only [c1', c2', decide_true, Bool.true_and, ← ih]
      simp [b_dom_May_0, h2, h3, c1, c2, c4, hw]
theorem dom_May (d : Dm) (hd : d.live < 18446744073709551616) (hn : d.vals.length ≤ 1000000) (h : List Ob) : acw C n_dom_May [domV d] h = some (.ret (.bool (mayD d)), h) := by
  refine acw_ex (v := .bool (mayD d)) (CT T_dom_May) rfl rfl (fun _ => rfl) (by simp) ?_
  by_cases c1 : (64 : Int) < d.vals.length
  · have e : mayD d = false := by unfold mayD; simp; omega
    rw [e]
    simp [runW_fin, F_dom_May, i_dom_May, c1]
  have hl : d.vals.length ≤ 64 := by omega
  have kf := first d.vals.length hl
  have hp : 2 ^ d.vals.length ≤ 2 ^ 64 := Nat.pow_le_pow_right (by omega) hl
  have hq : 0 < 2 ^ d.vals.length := Nat.two_pow_pos _
  obtain ⟨A, kA, ha⟩ := an_bin d.live (2 ^ d.vals.length - 1) hd (by omega)
  have ha := ha.trans (and_first d.live d.vals.length)
  obtain ⟨F, hF⟩ : ∃ F, F = 2 ^ d.vals.length - 1 := ⟨_, rfl⟩
  rw [← hF] at kf kA
  obtain ⟨fr', lp⟩ := may_loop d hl d.vals.length 0 none (by omega) (by omega) (fun _ => rfl)
  simp only [List.drop_zero, Int.cast_ofNat_Int] at lp
  by_cases c2 : d.live < 2 ^ d.vals.length
  · have ha := ha.2 c2
    cases cr : rising none d.vals with
    | true =>
      have e : mayD d = true := mayD_iff.2 ⟨hl, c2, cr⟩
      rw [cr] at lp
      rw [e]
      simp at lp
      subst ha
      simp [runW_fin, F_dom_May, i_dom_May, c1, kf, kA, lp, ieq, ine]
    | false =>
      have e : mayD d = false := by unfold mayD; rw [cr, Bool.and_false]
      rw [cr] at lp
      rw [e]
      simp at lp
      subst ha
      simp [runW_fin, F_dom_May, i_dom_May, c1, kf, kA, lp, ieq, ine]
  · have ha : ¬ A = 0 := fun x => c2 (ha.1 x)
    have e : mayD d = false := by unfold mayD; simp [c2]
    rw [e]
    simp [runW_fin, F_dom_May, i_dom_May, c1, kf, kA, ha, ieq, ine]
end Go.RR.M
set_option linter.unusedVariables false
set_option linter.unusedSimpArgs false
set_option maxRecDepth 100000
set_option maxHeartbeats 4000000
namespace Go.RR.M
open Go Go.RR
/-- a loop that goes through two lists at once -/
theorem pair_loop {C : Cx} {b : IR} {α : Type} [DecidableEq α] (l m : List α) (hlm : l.length = m.length) (fr : Nat → Fr) (hp : List Ob → Prop) (e : Rs → List Ob → Rs) (fe : Fr) (rs : Fr)
    (he : ∀ h, hp h → evw C y0 b (fr l.length) h = some (.ext 0, fe, h))
    (h1 : ∀ i (hi : i < l.length) (hi' : i < m.length) h, hp h → ∃ h', hp h' ∧ evw C y0 b (fr i) h = some (if l[i] = m[i] then (.nrm, fr (i + 1), h') else (.ret, rs, h'))) :
    ∀ (d i : Nat) (h : List Ob), i + d = l.length → hp h → ∃ h', hp h' ∧ evw C y0 (.loop b) (fr i) h = some (if l.drop i = m.drop i then (.ext 0, fe, h') else (.ret, rs, h')) := by
  intro d
  induction d with
  | zero =>
    intro i h hi hh
    have : i = l.length := by omega
    subst this
    refine ⟨h, hh, ?_⟩
    rw [w_loop, he h hh, List.drop_length, List.drop_eq_nil_of_le (by omega : m.length ≤ l.length)]
    rfl
  | succ d ih =>
    intro i h hi hh
    have hlt : i < l.length := by omega
    have hlt' : i < m.length := by omega
    obtain ⟨h2, g2, e2⟩ := h1 i hlt hlt' h hh
    rw [w_loop, e2, List.drop_eq_getElem_cons hlt, List.drop_eq_getElem_cons hlt']
    by_cases c : l[i] = m[i]
    · obtain ⟨h3, g3, e3⟩ := ih (i + 1) h2 (by omega) g2
      refine ⟨h3, g3, ?_⟩
      simp only [c, if_true, nxt_nrm, e3, List.cons.injEq, true_and]
    · refine ⟨h2, g2, ?_⟩
      simp only [c, if_false, nxt_ret, List.cons.injEq, false_and]
theorem ref02_same (l m : List Int) (hl : l.length ≤ 4611686018427387904) (h : List Ob) : acw C n_ref02_Same [intsV l, intsV m] h = some (.ret (.bool (decide (l = m))), h) := by
  refine acw_pure (h' := []) (v := .bool (decide (l = m))) (CT T_ref02_Same) rfl rfl ?_ rfl (by simp)
  by_cases hlm : l.length = m.length
  · obtain ⟨h', hh, hloop⟩ := pair_loop (C := C) (b := b_ref02_Same_0) l m hlm (fun i => [(0, intsV l), (1, intsV m), (5, iv i)]) (fun h => h = []) (fun r _ => r) [(0, intsV l), (1, intsV m), (5, iv l.length), (14, .bool false)] [(4, .bool false)] (by
      rintro h rfl
      simp [b_ref02_Same_0]) (by
      rintro i hi hi' h rfl
      have hw := wrap_succ hi (by omega)
      refine ⟨[], rfl, ?_⟩
      by_cases e : l[i] = m[i]
      · simp [b_ref02_Same_0, hi, hi', e, ine, hw]
      · simp [b_ref02_Same_0, hi, hi', e, ine]) l.length 0 [] (by omega) rfl
    subst hh
    simp only [List.drop_zero, Int.cast_ofNat_Int] at hloop
    have hloop : evw C y0 i_ref02_Same_l0 _ _ = _ := hloop
    by_cases hb : l = m
    · simp only [hb, if_true] at hloop
      simp [runW_fin, F_ref02_Same, i_ref02_Same, hb, hloop]
    · simp only [hb, if_false] at hloop
      simp [runW_fin, F_ref02_Same, i_ref02_Same, hb, hloop, hlm]
  · have h2 : ¬ ((l.length : Int) = m.length) := by omega
    have h4 : ¬ (l = m) := fun e => hlm (by rw [e])
    simp [runW_fin, F_ref02_Same, i_ref02_Same, h2, h4, ine]
end Go.RR.M
set_option linter.unusedVariables false
namespace Go.RR
open Go
abbrev domSh : Sh := .st (.cons intsSh (.cons (.int .u64) .nil))
theorem has_dom {vs : List V} (h : Has domSh vs) : ∃ s : Dm, domSh.mk vs = domV s ∧ s.live < 18446744073709551616 := by
  unfold domSh at h
  rw [Has] at h
  simp only [HasF] at h
  obtain ⟨a1, b1, rfl, h1, a2, b2, rfl, h2, rfl⟩ := h
  obtain ⟨l1, rfl, -⟩ := has_ints h1
  obtain ⟨n2, rfl, h3, h4⟩ := has_u64 h2
  obtain ⟨m, rfl⟩ := Int.eq_ofNat_of_zero_le h3
  exact ⟨⟨l1, m⟩, rfl, by simp only; omega⟩
end Go.RR
set_option linter.unusedVariables false
set_option linter.unusedSimpArgs false
set_option maxRecDepth 100000
set_option maxHeartbeats 4000000
namespace Go.RR.M
open Go Go.RR
abbrev zD : V := .agg [.nsl 1, .int .u64 0]
theorem mayD_live {d : Dm} (hm : mayD d = true) : d.live < 18446744073709551616 ∧ posL 64 d.live = posL d.vals.length d.live := by
  obtain ⟨h1, h2, h3⟩ := mayD_iff.1 hm
  have hp : 2 ^ d.vals.length ≤ 2 ^ 64 := Nat.pow_le_pow_right (by omega) h1
  exact ⟨by omega, posL_fuel _ _ _ h2 h1⟩
/-- what is written over: a row of its own, or nothing -/
def Wr (B : Nat) (h : List Ob) (x : V) : Prop := x = .nsl 1 ∨ x = .sl 1 [] ∨ ∃ id, ∃ zs : List Int, B ≤ id ∧ x = .own id 0 zs.length zs.length ∧ h[id]? = some (.row 1 (zs.map (V.int .i64))) ∧ zs.length ≤ 1000
theorem Wr.good {B : Nat} {h : List Ob} {x : V} (w : Wr B h x) : x.cells = [x] ∧ x.isTup = false ∧ x.isUnd = false ∧ x.one = true := by
  rcases w with rfl | rfl | ⟨id, zs, -, rfl, -, -⟩ <;> exact ⟨rfl, rfl, rfl, rfl⟩
theorem Wr.keep {B : Nat} {h h' : List Ob} {x : V} (w : Wr B h x) (k : ∀ i r, h[i]? = some (.row 1 r) → B ≤ i → h'[i]? = h[i]?) : Wr B h' x := by
  rcases w with rfl | rfl | ⟨id, zs, h1, rfl, h2, h3⟩
  · exact .inl rfl
  · exact .inr (.inl rfl)
  · exact .inr (.inr ⟨id, zs, h1, rfl, by rw [k id _ h2 h1]; exact h2, h3⟩)
theorem or_int (a b : Int) : ∃ n : Int, bin .or (.int .u64 a) (.int .u64 b) = some (.int .u64 n) := ⟨_, rfl⟩
theorem okept_loop (d : Dm) (f : Nat) (v : Int) (hf : ∀ x, ∃ b, acw C f [iv x, .pin (iv v) 0] [] = some (.ret (.bool b), [])) (kid j a b c : Nat) (x : V) (hj : j < 4096) (h1 : c ≠ kid) (h2 : c ≠ j) (h3 : c ≠ a)
    (ks : List Nat) (hks : ∀ k ∈ ks, k < d.vals.length) (hn : d.vals.length ≤ 64) (hkn : ks.length ≤ 64) : ∀ (m i : Nat) (acc : Int) (h : List Ob), i + m = ks.length → h[kid]? = some (.row 1 [.fn (.func f) [] [.ptr j 0 0 1]]) → h[j]? = some (.row 1 [iv v]) → h[a]? = some (.row 2 [domV d]) → h[c]? = some (.row 2 [.agg [x, .int .u64 acc]]) →
    ∃ acc', evw C y0 i_dom_kept_1_l0 [(1, .ptr kid 0 0 1), (2, .ptr a 0 0 1), (3, .ptr b 0 0 1), (4, .ptr c 0 0 1), (13, .sl 1 (nsV ks)), (14, iv ks.length), (15, iv i)] h =
      some (.ext 0, [(1, .ptr kid 0 0 1), (2, .ptr a 0 0 1), (3, .ptr b 0 0 1), (4, .ptr c 0 0 1), (13, .sl 1 (nsV ks)), (14, iv ks.length), (15, iv ks.length), (16, .bool false)], h.set c (.row 2 [.agg [x, .int .u64 acc']]))
  | 0, i, acc, h, e, g1, g2, g3, g4 => by
    obtain rfl : i = ks.length := by omega
    obtain ⟨hc, e4⟩ := List.getElem?_eq_some_iff.1 g4
    refine ⟨acc, ?_⟩
    rw [← e4, List.set_getElem_self, r_dom_kept_1_0]
    simp [b_dom_kept_1_0]
  | m + 1, i, acc, h, e, g1, g2, g3, g4 => by
    have hlt : i < ks.length := by omega
    have q2 : (i : Int) < ks.length := by omega
    have q3 : ks[i]? = some ks[i] := by simp [hlt]
    have hw := wrap_succ (i := i) (n := ks.length) hlt (by omega)
    have hki := hks ks[i] (List.getElem_mem hlt)
    have q4 : d.vals[ks[i]]? = some d.vals[ks[i]] := by simp [hki]
    have hc := (List.getElem?_eq_some_iff.1 g4).1
    obtain ⟨p, hp⟩ := hf d.vals[ks[i]]
    have hz : frzL (h.take 4096) [iv d.vals[ks[i]], .ptr j 0 0 1] = some [iv d.vals[ks[i]], .pin (iv v) 0] := by
      have e1 : (h.take 4096)[j]? = some (.row 1 [iv v]) := by simp [List.getElem?_take, hj, g2]
      show mapO (RR.frz (h.take 4096) 12) _ = _
      simp [mapO, RR.frz, e1]
    have hq : ∀ r, dq false r (crw C y0) f [iv d.vals[ks[i]], .ptr j 0 0 1] h = some (.ret (.bool p), h) := fun r => dq_frz hz rfl rfl hp rfl rfl r
    cases p with
    | true =>
      have kb := bits_of ks[i] (by omega)
      obtain ⟨P, hP⟩ : ∃ P, P = 2 ^ ks[i] := ⟨_, rfl⟩
      rw [← hP] at kb
      obtain ⟨n, ho⟩ := or_int acc (P : Int)
      have k4 : bsfL (.int .i64 0) [iv ks[i]] = some (.sl 1 [iv ks[i]]) := rfl
      obtain ⟨acc', ih⟩ := okept_loop d f v hf kid j a b c x hj h1 h2 h3 ks hks hn hkn m (i + 1) n (h.set c (.row 2 [.agg [x, .int .u64 n]])) (by omega) (by rw [List.getElem?_set_ne h1]; exact g1) (by rw [List.getElem?_set_ne h2]; exact g2) (by rw [List.getElem?_set_ne h3]; exact g3) (List.getElem?_set_self hc)
      rw [List.set_set] at ih
      have k6 := wr_lt (h := h) (i := c) (o := .row 2 [.agg [x, .int .u64 n]]) hc
      refine ⟨acc', ?_⟩
      simp only [Int.natCast_add, Int.cast_ofNat_Int] at ih
      rw [r_dom_kept_1_0, ← ih]
      simp [b_dom_kept_1_0, q2, q3, q4, g1, g3, g4, hq, kb, k4, ho, k6, hw]
    | false =>
      obtain ⟨acc', ih⟩ := okept_loop d f v hf kid j a b c x hj h1 h2 h3 ks hks hn hkn m (i + 1) acc h (by omega) g1 g2 g3 g4
      refine ⟨acc', ?_⟩
      simp only [Int.natCast_add, Int.cast_ofNat_Int] at ih
      rw [r_dom_kept_1_0, ← ih]
      simp [b_dom_kept_1_0, q2, q3, q4, g1, g3, g4, hq, hw]
theorem cloneE (a : List V) (h : List Ob) : C.H n_slices_Clone_sint_int a h = cloneH 1 8 a h := by simp [C, H, n_slices_Clone_sint_int, n_slices_Sort_sint_int]
theorem oclone (l : List Int) (hl : l.length ≤ 1000000) (h : List Ob) (e : l ≠ []) : acw C n_slices_Clone_sint_int [intsV l] h = some (.ret (.own h.length 0 l.length l.length), h ++ [.row 1 (l.map (V.int .i64))]) := by
  refine acw_H rfl ?_
  rw [cloneE]
  have h1 : l.length * 8 ≤ 70368744177664 := by omega
  have h2 : l.length ≤ 70368744177664 := by omega
  have h3 : dataL (l.map (V.int .i64)) = true := dataL_all (by simp)
  have h4 : (l.map (V.int .i64)).isEmpty = false := by simp [e]
  simp only [cloneH, List.length_map]
  rw [if_pos ⟨trivial, h4, h1, h2, h3⟩]
theorem oclone0 (h : List Ob) : acw C n_slices_Clone_sint_int [.sl 1 []] h = some (.ret (.sl 1 []), h) := by
  refine acw_S (a2 := [.sl 1 []]) rfl ?_ rfl ?_ rfl
  · rw [cloneE]; rfl
  · simp [C, S, s_clone]
theorem okept1 (d : Dm) (f : Nat) (v : Int) (hf : ∀ x, ∃ b, acw C f [iv x, .pin (iv v) 0] [] = some (.ret (.bool b), [])) (kid j : Nat) (h : List Ob) (hm : mayD d = true) (hj : j < 4096) (g1 : h[kid]? = some (.row 1 [.fn (.func f) [] [.ptr j 0 0 1]])) (g2 : h[j]? = some (.row 1 [iv v])) :
    ∃ x n t, acw C n_dom_kept_1 [domV d, .ptr kid 0 0 1] h = some (.ret (.agg [x, .int .u64 n]), h ++ t) ∧ Wr h.length (h ++ t) x ∧ t.length ≤ 4 := by
  obtain ⟨m1, m2, -⟩ := mayD_iff.1 hm
  obtain ⟨hl, hp⟩ := mayD_live hm
  have kb := blist d.live hl
  rw [hp] at kb
  have hcnt := posL_cnt d.vals.length d.live
  have hlt : ∀ k ∈ posL d.vals.length d.live, k < d.vals.length := fun k hk => posL_lt _ _ _ hk
  obtain ⟨K, hK⟩ : ∃ K, K = posL d.vals.length d.live := ⟨_, rfl⟩
  rw [← hK] at kb hcnt hlt
  have hkl := (List.getElem?_eq_some_iff.1 g1).1
  have hjl := (List.getElem?_eq_some_iff.1 g2).1
  by_cases e : d.vals = []
  · have hK0 : K = [] := by rw [e] at hcnt; exact List.length_eq_zero_iff.1 (by simpa using hcnt)
    obtain ⟨n, lp⟩ := okept_loop d f v hf kid j h.length (h.length + 1) (h.length + 2) (.sl 1 []) hj (by omega) (by omega) (by omega) K hlt m1 (by omega) K.length 0 0 (h ++ [.row 2 [domV d], .row 2 [zD], .row 2 [.agg [.sl 1 [], .int .u64 0]]]) (by omega) (get_some g1) (get_some g2) (by simp) (by simp)
    simp only [Int.cast_ofNat_Int] at lp
    refine ⟨.sl 1 [], n, [.row 2 [domV d], .row 2 [.agg [.sl 1 [], .int .u64 n]], .row 2 [.agg [.sl 1 [], .int .u64 n]]], ?_, .inr (.inl rfl), by simp⟩
    rw [acw_hm (CT T_dom_kept_1) rfl]
    have kc := oclone0
    have ev : intsV d.vals = .sl 1 [] := by rw [e]; rfl
    simp [domV, ev] at lp
    simp [runW_fin, F_dom_kept_1, i_dom_kept_1, kb, kc, ev, lp]
  · have kc := fun g => oclone d.vals (by omega) g e
    obtain ⟨n, lp⟩ := okept_loop d f v hf kid j h.length (h.length + 1) (h.length + 3) (.own (h.length + 2) 0 d.vals.length d.vals.length) hj (by omega) (by omega) (by omega) K hlt m1 (by omega) K.length 0 0 (h ++ [.row 2 [domV d], .row 2 [zD], .row 1 (d.vals.map (V.int .i64)), .row 2 [.agg [.own (h.length + 2) 0 d.vals.length d.vals.length, .int .u64 0]]]) (by omega) (get_some g1) (get_some g2) (by simp) (by simp)
    simp only [Int.cast_ofNat_Int] at lp
    refine ⟨.own (h.length + 2) 0 d.vals.length d.vals.length, n, [.row 2 [domV d], .row 2 [.agg [.own (h.length + 2) 0 d.vals.length d.vals.length, .int .u64 n]], .row 1 (d.vals.map (V.int .i64)), .row 2 [.agg [.own (h.length + 2) 0 d.vals.length d.vals.length, .int .u64 n]]], ?_, .inr (.inr ⟨h.length + 2, d.vals, by omega, rfl, by simp, by omega⟩), by simp⟩
    rw [acw_hm (CT T_dom_kept_1) rfl]
    simp at lp
    simp [runW_fin, F_dom_kept_1, i_dom_kept_1, kb, kc, lp]
end Go.RR.M
set_option linter.unusedVariables false
set_option linter.unusedSimpArgs false
set_option maxRecDepth 100000
set_option maxHeartbeats 4000000
namespace Go.RR.M
open Go Go.RR
theorem Wr.set2 {B y : Nat} {h : List Ob} {x : V} {r : List V} {o : Ob} (w : Wr B h x) (e : h[y]? = some (.row 2 r)) : Wr B (h.set y o) x := w.keep fun i s hi _ => by
  by_cases c : y = i
  · subst c; rw [e] at hi; cases hi
  · rw [List.getElem?_set_ne c]
theorem Wr.mono {B B' : Nat} {h : List Ob} {x : V} (w : Wr B h x) (hb : B' ≤ B) : Wr B' h x := by
  rcases w with h1 | h1 | ⟨id, zs, h1, h2⟩
  · exact .inl h1
  · exact .inr (.inl h1)
  · exact .inr (.inr ⟨id, zs, by omega, h2⟩)
theorem oasked (d : Dm) (hv : d.live < 18446744073709551616) (hn : d.vals.length ≤ 1000000) (f : Nat) (v : Int) (hf : ∀ x, ∃ b, acw C f [iv x, .pin (iv v) 0] [] = some (.ret (.bool b), [])) (kid j : Nat) (h : List Ob) (hj : j < 4096) (g1 : h[kid]? = some (.row 1 [.fn (.func f) [] [.ptr j 0 0 1]])) (g2 : h[j]? = some (.row 1 [iv v])) :
    ∃ x n t, acw C n_dom_asked_dom_Dom [domV d, .fn (.func n_dom_kept_1) [] [.ptr kid 0 0 1]] h = some (.ret (.agg [x, .int .u64 n]), h ++ t) ∧ Wr h.length (h ++ t) x ∧ t.length ≤ 8 := by
  have k1 := dom_May d hv hn
  cases hm : mayD d with
  | true =>
    rw [hm] at k1
    obtain ⟨x, n, t, kk, w, hl⟩ := okept1 d f v hf kid j (h ++ [.row 2 [domV d], .row 2 [zD], .row 2 [zD]]) hm hj (get_some g1) (get_some g2)
    obtain ⟨q1, q2, q3, q4⟩ := w.good
    refine ⟨x, n, [.row 2 [domV d], .row 2 [.agg [x, .int .u64 n]], .row 2 [zD]] ++ t, ?_, ?_, by simp; omega⟩
    · rw [acw_hm (CT T_dom_asked_dom_Dom) rfl]
      simp at kk
      simp [runW_fin, F_dom_asked_dom_Dom, i_dom_asked_dom_Dom, k1, kk, q1]
    · have w2 := w.set2 (y := h.length + 1) (r := [zD]) (o := .row 2 [.agg [x, .int .u64 n]]) (by simp)
      have e : (h ++ [Ob.row 2 [domV d], .row 2 [zD], .row 2 [zD]] ++ t).set (h.length + 1) (.row 2 [.agg [x, .int .u64 n]]) = h ++ ([.row 2 [domV d], .row 2 [.agg [x, .int .u64 n]], .row 2 [zD]] ++ t) := by simp
      rw [e] at w2
      exact w2.mono (by simp)
  | false =>
    rw [hm] at k1
    refine ⟨.nsl 1, 0, [.row 2 [domV d], .row 2 [zD], .row 2 [zD]], ?_, .inl rfl, by simp⟩
    rw [acw_hm (CT T_dom_asked_dom_Dom) rfl]
    simp [runW_fin, F_dom_asked_dom_Dom, i_dom_asked_dom_Dom, k1]
theorem okept (d : Dm) (hv : d.live < 18446744073709551616) (hn : d.vals.length ≤ 1000000) (f : Nat) (v : Int) (hf : ∀ x, ∃ b, acw C f [iv x, .pin (iv v) 0] [] = some (.ret (.bool b), [])) (j : Nat) (h : List Ob) (hj : j < 4096) (g2 : h[j]? = some (.row 1 [iv v])) :
    ∃ x n t, acw C n_dom_kept [domV d, .fn (.func f) [] [.ptr j 0 0 1]] h = some (.ret (.agg [x, .int .u64 n]), h ++ t) ∧ Wr h.length (h ++ t) x ∧ t.length ≤ 12 := by
  obtain ⟨x, n, t, kk, w, hl⟩ := oasked d hv hn f v hf (h.length + 1) j (h ++ [.row 2 [domV d], .row 1 [.fn (.func f) [] [.ptr j 0 0 1]], .row 2 [zD]]) hj (by simp) (get_some g2)
  obtain ⟨q1, q2, q3, q4⟩ := w.good
  refine ⟨x, n, [.row 2 [domV d], .row 1 [.fn (.func f) [] [.ptr j 0 0 1]], .row 2 [.agg [x, .int .u64 n]]] ++ t, ?_, ?_, by simp; omega⟩
  · rw [acw_hm (CT T_dom_kept) rfl]
    simp at kk
    simp [runW_fin, F_dom_kept, i_dom_kept, kk, q1]
  · have w2 := w.set2 (y := h.length + 2) (r := [zD]) (o := .row 2 [.agg [x, .int .u64 n]]) (by simp)
    have e : (h ++ [Ob.row 2 [domV d], .row 1 [.fn (.func f) [] [.ptr j 0 0 1]], .row 2 [zD]] ++ t).set (h.length + 2) (.row 2 [.agg [x, .int .u64 n]]) = h ++ ([.row 2 [domV d], .row 1 [.fn (.func f) [] [.ptr j 0 0 1]], .row 2 [.agg [x, .int .u64 n]]] ++ t) := by simp
    rw [e] at w2
    exact w2.mono (by simp)
theorem only_1 (x v : Int) (h : List Ob) : acw C n_dom_Only_1 [iv x, .pin (iv v) 0] h = some (.ret (.bool (x == v)), h) := by
  refine acw_ex (v := .bool (x == v)) (CT T_dom_Only_1) rfl rfl (fun _ => rfl) (by simp) ?_
  simp [runW_fin, F_dom_Only_1, i_dom_Only_1]
theorem less_1 (x v : Int) (h : List Ob) : acw C n_dom_Less_1 [iv x, .pin (iv v) 0] h = some (.ret (.bool (x != v)), h) := by
  refine acw_ex (v := .bool (x != v)) (CT T_dom_Less_1) rfl rfl (fun _ => rfl) (by simp) ?_
  simp [runW_fin, F_dom_Less_1, i_dom_Less_1]
theorem oLess (d : Dm) (v : Int) (hv : d.live < 18446744073709551616) (hn : d.vals.length ≤ 1000000) (h : List Ob) (hh : h.length ≤ 1000) :
    ∃ x n t, acw C n_dom_Less [domV d, iv v] h = some (.ret (.agg [x, .int .u64 n]), h ++ t) ∧ Wr h.length (h ++ t) x ∧ t.length ≤ 20 := by
  obtain ⟨x, n, t, kk, w, hl⟩ := okept d hv hn n_dom_Less_1 v (fun x => ⟨_, less_1 x v []⟩) (h.length + 1) (h ++ [.row 2 [domV d], .row 1 [iv v], .row 2 [zD]]) (by omega) (by simp)
  obtain ⟨q1, q2, q3, q4⟩ := w.good
  refine ⟨x, n, [.row 2 [domV d], .row 1 [iv v], .row 2 [.agg [x, .int .u64 n]]] ++ t, ?_, ?_, by simp; omega⟩
  · rw [acw_hm (CT T_dom_Less) rfl]
    simp at kk
    simp [runW_fin, F_dom_Less, i_dom_Less, kk, q1]
  · have w2 := w.set2 (y := h.length + 2) (r := [zD]) (o := .row 2 [.agg [x, .int .u64 n]]) (by simp)
    have e : (h ++ [Ob.row 2 [domV d], .row 1 [iv v], .row 2 [zD]] ++ t).set (h.length + 2) (.row 2 [.agg [x, .int .u64 n]]) = h ++ ([.row 2 [domV d], .row 1 [iv v], .row 2 [.agg [x, .int .u64 n]]] ++ t) := by simp
    rw [e] at w2
    exact w2.mono (by simp)
theorem oOnly (d : Dm) (v : Int) (hv : d.live < 18446744073709551616) (hn : d.vals.length ≤ 1000000) (h : List Ob) (hh : h.length ≤ 1000) :
    ∃ x n t, acw C n_dom_Only [domV d, iv v] h = some (.ret (.agg [x, .int .u64 n]), h ++ t) ∧ Wr h.length (h ++ t) x ∧ t.length ≤ 20 := by
  obtain ⟨x, n, t, kk, w, hl⟩ := okept d hv hn n_dom_Only_1 v (fun x => ⟨_, only_1 x v []⟩) (h.length + 1) (h ++ [.row 2 [domV d], .row 1 [iv v], .row 2 [zD]]) (by omega) (by simp)
  obtain ⟨q1, q2, q3, q4⟩ := w.good
  refine ⟨x, n, [.row 2 [domV d], .row 1 [iv v], .row 2 [.agg [x, .int .u64 n]]] ++ t, ?_, ?_, by simp; omega⟩
  · rw [acw_hm (CT T_dom_Only) rfl]
    simp at kk
    simp [runW_fin, F_dom_Only, i_dom_Only, kk, q1]
  · have w2 := w.set2 (y := h.length + 2) (r := [zD]) (o := .row 2 [.agg [x, .int .u64 n]]) (by simp)
    have e : (h ++ [Ob.row 2 [domV d], .row 1 [iv v], .row 2 [zD]] ++ t).set (h.length + 2) (.row 2 [.agg [x, .int .u64 n]]) = h ++ ([.row 2 [domV d], .row 1 [iv v], .row 2 [.agg [x, .int .u64 n]]] ++ t) := by simp
    rw [e] at w2
    exact w2.mono (by simp)
theorem olist_loop (d : Dm) (a : Nat) (ks : List Nat) (hk : ∀ k ∈ ks, k < d.vals.length) (hn : ks.length ≤ 1000) : ∀ (m i : Nat) (v : V) (acc : List Int) (h : List Ob), i + m = ks.length → acc.length ≤ i → h[a]? = some (.row 2 [domV d]) → AccB (a + 1) h v 1 (acc.map (V.int .i64)) →
    ∃ v' h', ∃ zs : List Int, evw C y0 i_dom_List_1_l0 [(1, .ptr a 0 0 1), (3, v), (8, .sl 1 (nsV ks)), (9, iv ks.length), (10, iv i)] h = some (.ext 0, [(1, .ptr a 0 0 1), (3, v'), (8, .sl 1 (nsV ks)), (9, iv ks.length), (10, iv ks.length), (11, .bool false)], h') ∧ AccB (a + 1) h' v' 1 (zs.map (V.int .i64)) ∧ (∀ j, j < a + 1 → h'[j]? = h[j]?) ∧ zs.length ≤ ks.length
  | 0, i, v, acc, h, e, ha, h0, hA => by
    obtain rfl : i = ks.length := by omega
    rw [r_dom_List_1_0]
    refine ⟨v, h, acc, ?_, hA, fun _ _ => rfl, ha⟩
    simp [b_dom_List_1_0]
  | m + 1, i, v, acc, h, e, ha, h0, hA => by
    have hlt : i < ks.length := by omega
    have h2 : (i : Int) < ks.length := by omega
    have h3 : ks[i]? = some ks[i] := by simp [hlt]
    have hw := wrap_succ (i := i) (n := ks.length) hlt (by omega)
    have hks := hk ks[i] (List.getElem_mem hlt)
    have h4 : d.vals[ks[i]]? = some d.vals[ks[i]] := by simp [hks]
    have hh := (List.getElem?_eq_some_iff.1 h0).1
    obtain ⟨v1, w, e1, e2, -, e4⟩ := hA.app (b := 8) (y := .sl 1 [iv d.vals[ks[i]]]) (ys := [iv d.vals[ks[i]]]) (by omega) rfl (by simp only [List.length_cons, List.length_nil, List.length_map]; omega) (by simp only [List.length_cons, List.length_nil, List.length_map]; omega)
    have e2' : AccB (a + 1) (wr h w) v1 1 ((acc ++ [d.vals[ks[i]]]).map (V.int .i64)) := by simpa using e2
    obtain ⟨v', h', zs, ih1, ih2, ih3, ih4⟩ := olist_loop d a ks hk hn m (i + 1) v1 (acc ++ [d.vals[ks[i]]]) _ (by omega) (by simp; omega) (by rw [e4 a (by omega)]; exact h0) e2'
    have k4 : bsfL (.int .i64 0) [iv d.vals[ks[i]]] = some (.sl 1 [iv d.vals[ks[i]]]) := rfl
    simp only [Int.natCast_add, Int.cast_ofNat_Int] at ih1
    refine ⟨v', h', zs, ?_, ih2, fun j hj => by rw [ih3 j hj, e4 j hj], ih4⟩
    rw [r_dom_List_1_0, ← ih1]
    simp [b_dom_List_1_0, h2, h3, h0, h4, k4, e1, hw]
/-- what is left, as a list: what is written lies above -/
theorem oList (d : Dm) (hv : d.live < 18446744073709551616) (hn : d.vals.length ≤ 1000000) (h : List Ob) : ∃ x h', acw C n_dom_List [domV d] h = some (.ret x, h') ∧ Wr h.length h' x ∧ (∀ j, j < h.length → h'[j]? = h[j]?) ∧ h.length ≤ h'.length := by
  have k1 := dom_May d hv hn
  have key : ∀ g, ∃ x g', acw C n_dom_asked_sint [domV d, .fn (.func n_dom_List_1) [] []] g = some (.ret x, g') ∧ Wr g.length g' x ∧ (∀ j, j < g.length → g'[j]? = g[j]?) ∧ g.length ≤ g'.length := by
    intro g
    cases hm : mayD d with
    | false =>
      rw [hm] at k1
      refine ⟨.nsl 1, g ++ [.row 2 [domV d]], ?_, .inl rfl, fun j hj => get_lt hj, by simp⟩
      rw [acw_hm (CT T_dom_asked_sint) rfl]
      simp [runW_fin, F_dom_asked_sint, i_dom_asked_sint, k1]
    | true =>
      rw [hm] at k1
      obtain ⟨hl, hp⟩ := mayD_live hm
      obtain ⟨m1, m2, -⟩ := mayD_iff.1 hm
      have kb := blist d.live hl
      rw [hp] at kb
      have hcnt := posL_cnt d.vals.length d.live
      have hlt : ∀ k ∈ posL d.vals.length d.live, k < d.vals.length := fun k hk => posL_lt _ _ _ hk
      obtain ⟨K, hK⟩ : ∃ K, K = posL d.vals.length d.live := ⟨_, rfl⟩
      rw [← hK] at kb hcnt hlt
      obtain ⟨v', g', zs, lp, l2, l3, l4⟩ := olist_loop d (g.length + 1) K hlt (by omega) K.length 0 (.nsl 1) [] (g ++ [.row 2 [domV d], .row 2 [domV d]]) (by omega) (by simp) (by simp) .nil
      have kl : acw C n_dom_List_1 [domV d] (g ++ [.row 2 [domV d]]) = some (.ret v', g') := by
        rw [acw_hm (CT T_dom_List_1) rfl]
        simp only [Int.cast_ofNat_Int] at lp
        simp [runW_fin, F_dom_List_1, i_dom_List_1, kb, lp]
      have hb : g.length ≤ g'.length := by
        have := l3 (g.length) (by omega)
        rw [List.getElem?_append_right (by omega)] at this
        simp at this
        have := (List.getElem?_eq_some_iff.1 this).1
        omega
      refine ⟨v', g', ?_, ?_, fun j hj => by rw [l3 j (by omega), get_lt hj], hb⟩
      · rw [acw_hm (CT T_dom_asked_sint) rfl]
        simp [runW_fin, F_dom_asked_sint, i_dom_asked_sint, k1, kl]
      · rcases l2 with ⟨rfl, -⟩ | ⟨id, h1, rfl, h2⟩
        · exact .inl rfl
        · exact .inr (.inr ⟨id, zs, by omega, by simp, h2, by omega⟩)
  obtain ⟨x, g', k2, k3, k4, k5⟩ := key (h ++ [.row 2 [domV d]])
  simp at k5
  refine ⟨x, g', ?_, k3.mono (by simp), fun j hj => by rw [k4 j (by simp; omega), get_lt hj], by omega⟩
  rw [acw_hm (CT T_dom_List) rfl]
  simp [runW_fin, F_dom_List, i_dom_List, k2]
end Go.RR.M
set_option linter.unusedVariables false
set_option linter.unusedSimpArgs false
set_option maxRecDepth 100000
set_option maxHeartbeats 16000000
namespace Go.RR.M
open Go Go.RR
theorem own_l0 (v : Int) (A1 A2 A27 A28 : V) (w7 : V) (c7 c28 : Nat) (h1 : A1 = iv v) (id : Nat) (n : Int) : ∀ (m i : Nat) (zs : List Int) (h : List Ob), i + m = zs.length → zs.length ≤ 1000 → h[id]? = some (.row 1 (zs.map (V.int .i64))) → h[c7]? = some (.row 2 [.agg [.own id 0 zs.length zs.length, .int .u64 n]]) →
    ∃ ys : List Int, ys.length = zs.length ∧ evw C y0 i_law04_DomOwn_l0 [(1, A1), (2, A2), (5, w7), (7, .ptr c7 0 0 1), (27, A27), (28, A28), (33, iv zs.length), (34, iv i)] h = some (.ext 2, [(1, A1), (2, A2), (5, w7), (7, .ptr c7 0 0 1), (27, A27), (28, A28), (33, iv zs.length), (34, iv zs.length), (35, .bool false)], h.set id (.row 1 (ys.map (V.int .i64))))
  | 0, i, zs, h, e, hz, g1, g2 => by
    obtain rfl : i = zs.length := by omega
    obtain ⟨hc, e4⟩ := List.getElem?_eq_some_iff.1 g1
    refine ⟨zs, rfl, ?_⟩
    rw [← e4, List.set_getElem_self, r_law04_DomOwn_0]
    simp [b_law04_DomOwn_0]
  | m + 1, i, zs, h, e, hz, g1, g2 => by
    have hlt : i < zs.length := by omega
    have q2 : (i : Int) < zs.length := by omega
    have q3 : zs[i]? = some zs[i] := by simp [hlt]
    have hw := wrap_succ (i := i) (n := zs.length) hlt (by omega)
    have hc := (List.getElem?_eq_some_iff.1 g1).1
    have hne : id ≠ c7 := fun e => by rw [e, g2] at g1; cases g1
    have hs : (zs.map (V.int .i64)).set i (iv v) = (zs.set i v).map (V.int .i64) := by rw [List.map_set]
    have hl : (zs.set i v).length = zs.length := by simp
    obtain ⟨ys, y1, ih⟩ := own_l0 v A1 A2 A27 A28 w7 c7 c28 h1 id n m (i + 1) (zs.set i v) (h.set id (.row 1 ((zs.set i v).map (V.int .i64)))) (by rw [hl]; omega) (by rw [hl]; exact hz) (List.getElem?_set_self hc) (by rw [List.getElem?_set_ne hne, hl]; exact g2)
    rw [hl] at y1 ih
    rw [List.set_set] at ih
    have k6 := wr_lt (h := h) (i := id) (o := .row 1 ((zs.set i v).map (V.int .i64))) hc
    refine ⟨ys, y1, ?_⟩
    simp only [Int.natCast_add, Int.cast_ofNat_Int] at ih
    rw [r_law04_DomOwn_0, ← ih]
    subst h1
    rw [← hs] at k6 ⊢
    simp [b_law04_DomOwn_0, q2, q3, g1, g2, k6, hw]
theorem own_l2 (v : Int) (A1 A2 w7 : V) (h1 : A1 = iv v) (id : Nat) : ∀ (m i : Nat) (zs : List Int) (h : List Ob) (k : Nat), i + m = zs.length → zs.length ≤ 1000 → k = zs.length → h[id]? = some (.row 1 (zs.map (V.int .i64))) →
    ∃ ys : List Int, evw C y0 i_law04_DomOwn_l2 [(1, A1), (2, A2), (5, w7), (9, .own id 0 k k), (47, iv k), (48, iv i)] h = some (.ext 4, [(1, A1), (2, A2), (5, w7), (9, .own id 0 k k), (47, iv k), (48, iv k), (49, .bool false)], h.set id (.row 1 (ys.map (V.int .i64))))
  | 0, i, zs, h, k, e, hz, hk, g1 => by
    obtain rfl : i = zs.length := by omega
    subst hk
    obtain ⟨hc, e4⟩ := List.getElem?_eq_some_iff.1 g1
    refine ⟨zs, ?_⟩
    rw [← e4, List.set_getElem_self, r_law04_DomOwn_2]
    simp [b_law04_DomOwn_2]
  | m + 1, i, zs, h, k, e, hz, hk, g1 => by
    subst hk
    have hlt : i < zs.length := by omega
    have q2 : (i : Int) < zs.length := by omega
    have q3 : zs[i]? = some zs[i] := by simp [hlt]
    have hw := wrap_succ (i := i) (n := zs.length) hlt (by omega)
    have hc := (List.getElem?_eq_some_iff.1 g1).1
    have hs : (zs.map (V.int .i64)).set i (iv v) = (zs.set i v).map (V.int .i64) := by rw [List.map_set]
    have hl : (zs.set i v).length = zs.length := by simp
    obtain ⟨ys, ih⟩ := own_l2 v A1 A2 w7 h1 id m (i + 1) (zs.set i v) (h.set id (.row 1 ((zs.set i v).map (V.int .i64)))) zs.length (by rw [hl]; omega) (by rw [hl]; exact hz) hl.symm (List.getElem?_set_self hc)
    rw [List.set_set] at ih
    have k6 := wr_lt (h := h) (i := id) (o := .row 1 ((zs.set i v).map (V.int .i64))) hc
    refine ⟨ys, ?_⟩
    simp only [Int.natCast_add, Int.cast_ofNat_Int] at ih
    rw [r_law04_DomOwn_2, ← ih]
    subst h1
    rw [← hs] at k6 ⊢
    simp [b_law04_DomOwn_2, q2, q3, g1, k6, hw]
/-- one answer, written over -/
theorem own_in (v : Int) (A2 A27 A28 w7 x : V) (n : Int) (B : Nat) (h : List Ob) (w : Wr B h x) : ∃ k : Nat, ∃ h', lenV (h ++ [.row 2 [.agg [x, .int .u64 n]]]) x = some (iv k, none) ∧
    evw C y0 i_law04_DomOwn_l0 [(1, iv v), (2, A2), (5, w7), (7, .ptr h.length 0 0 1), (27, A27), (28, A28), (33, iv k), (34, .int .i64 0)] (h ++ [.row 2 [.agg [x, .int .u64 n]]]) = some (.ext 2, [(1, iv v), (2, A2), (5, w7), (7, .ptr h.length 0 0 1), (27, A27), (28, A28), (33, iv k), (34, iv k), (35, .bool false)], h') ∧
    (∀ j, j < B → j < h.length → h'[j]? = h[j]?) ∧ (∀ B' y, (∃ C0, C0 ≤ B' ∧ ∀ id zs, x = .own id 0 zs zs → id < C0) → Wr B' h y → Wr B' h' y) ∧ h'.length = h.length + 1 := by
  have base : ∀ (x : V), lenV (h ++ [.row 2 [.agg [x, .int .u64 n]]]) x = some (iv 0, none) → ∃ k : Nat, ∃ h', lenV (h ++ [.row 2 [.agg [x, .int .u64 n]]]) x = some (iv k, none) ∧
    evw C y0 i_law04_DomOwn_l0 [(1, iv v), (2, A2), (5, w7), (7, .ptr h.length 0 0 1), (27, A27), (28, A28), (33, iv k), (34, .int .i64 0)] (h ++ [.row 2 [.agg [x, .int .u64 n]]]) = some (.ext 2, [(1, iv v), (2, A2), (5, w7), (7, .ptr h.length 0 0 1), (27, A27), (28, A28), (33, iv k), (34, iv k), (35, .bool false)], h') ∧
    (∀ j, j < B → j < h.length → h'[j]? = h[j]?) ∧ (∀ B' y, (∃ C0, C0 ≤ B' ∧ ∀ id zs, x = .own id 0 zs zs → id < C0) → Wr B' h y → Wr B' h' y) ∧ h'.length = h.length + 1 := by
    intro x hx
    refine ⟨0, h ++ [.row 2 [.agg [x, .int .u64 n]]], hx, ?_, fun j _ hj => get_lt hj, fun B' y _ w => w.keep fun i r hi _ => get_lt (List.getElem?_eq_some_iff.1 hi).1, by simp⟩
    rw [r_law04_DomOwn_0]
    simp [b_law04_DomOwn_0]
  rcases w with rfl | rfl | ⟨id, zs, hB, rfl, g1, hz⟩
  · exact base _ rfl
  · exact base _ rfl
  · have hc := (List.getElem?_eq_some_iff.1 g1).1
    obtain ⟨ys, y1, lp⟩ := own_l0 v (iv v) A2 A27 A28 w7 h.length 0 rfl id n zs.length 0 zs (h ++ [.row 2 [.agg [.own id 0 zs.length zs.length, .int .u64 n]]]) (by omega) hz (get_some g1) (by simp)
    simp only [Int.cast_ofNat_Int] at lp
    refine ⟨zs.length, (h ++ [Ob.row 2 [.agg [.own id 0 zs.length zs.length, .int .u64 n]]]).set id (.row 1 (ys.map (V.int .i64))), ?_, lp, fun j hj hj2 => ?_, fun B' y ⟨C0, hC, hx⟩ w => ?_, ?_⟩
    · rw [v_len3]
      simp [rowOf, show (h ++ [Ob.row 2 [.agg [.own id 0 zs.length zs.length, .int .u64 n]]])[id]? = some (.row 1 (zs.map (V.int .i64))) from get_some g1]
    · rw [List.getElem?_set_ne (by omega), get_lt hj2]
    · have hid := hx id zs.length rfl
      rcases w with rfl | rfl | ⟨id2, zs2, hB2, rfl, g2, hz2⟩
      · exact .inl rfl
      · exact .inr (.inl rfl)
      · exact .inr (.inr ⟨id2, zs2, hB2, rfl, by rw [List.getElem?_set_ne (by omega)]; exact get_some g2, hz2⟩)
    · simp
theorem own_list (v : Int) (A2 w7 x : V) (B : Nat) (h : List Ob) (w : Wr B h x) : ∃ k : Nat, ∃ h', lenV h x = some (iv k, none) ∧
    evw C y0 i_law04_DomOwn_l2 [(1, iv v), (2, A2), (5, w7), (9, x), (47, iv k), (48, .int .i64 0)] h = some (.ext 4, [(1, iv v), (2, A2), (5, w7), (9, x), (47, iv k), (48, iv k), (49, .bool false)], h') ∧ (∀ j, j < B → h'[j]? = h[j]?) := by
  rcases w with rfl | rfl | ⟨id, zs, hB, rfl, g1, hz⟩
  · refine ⟨0, h, rfl, ?_, fun _ _ => rfl⟩
    rw [r_law04_DomOwn_2]
    simp [b_law04_DomOwn_2]
  · refine ⟨0, h, rfl, ?_, fun _ _ => rfl⟩
    rw [r_law04_DomOwn_2]
    simp [b_law04_DomOwn_2]
  · obtain ⟨ys, lp⟩ := own_l2 v (iv v) A2 w7 rfl id zs.length 0 zs h zs.length (by omega) hz rfl g1
    simp only [Int.cast_ofNat_Int] at lp
    refine ⟨zs.length, _, ?_, lp, fun j hj => List.getElem?_set_ne (by omega)⟩
    rw [v_len3]
    simp [rowOf, g1]
theorem ownD (d : Dm) (v : Int) (hd : d.live < 18446744073709551616) (h : List Ob) : acw C n_law04_DomOwn [domV d, iv v] h = some (.ret (.bool true), h) := by
  refine acw_ex (v := .bool true) (CT T_law04_DomOwn) rfl rfl (fun _ => rfl) (by simp) ?_
  have k0 := awake
  by_cases c2 : (100 : Int) < d.vals.length
  · simp [runW_fin, F_law04_DomOwn, i_law04_DomOwn, k0, c2]
  have hdl : d.vals.length ≤ 1000000 := by omega
  obtain ⟨W, kA, kW⟩ : ∃ W, (∀ nid, appV nid [.row 2 [domV d], .row 1 []] 1 8 (.own 1 0 0 0) (intsV d.vals) = some (.own 1 0 d.vals.length d.vals.length, W)) ∧ wr [.row 2 [domV d], .row 1 []] W = [.row 2 [domV d], .row 1 (d.vals.map (V.int .i64))] := by
    by_cases e : d.vals = []
    · refine ⟨none, fun nid => ?_, by rw [e]; rfl⟩
      rw [e]
      rfl
    · refine ⟨some (1, .row 1 (d.vals.map (V.int .i64))), fun nid => ?_, rfl⟩
      have := appV_own (nid := nid) (h := [.row 2 [domV d], .row 1 []]) (id := 1) (z := 1) (b := 8) (n := 0) (m := d.vals.length) (xs := []) (y := intsV d.vals) (ys := d.vals.map (V.int .i64)) rfl rfl rfl (by simpa using e) (by simp) (by omega) (by omega)
      simpa using this
  obtain ⟨x1, n1, t1, f1, w1, l1⟩ := oLess d v hd hdl [.row 2 [domV d], .row 1 (d.vals.map (V.int .i64))] (by simp)
  obtain ⟨x2, n2, t2, f2, w2, l2⟩ := oOnly d v hd hdl ([.row 2 [domV d], .row 1 (d.vals.map (V.int .i64))] ++ t1) (by simp; omega)
  have w1' : Wr 2 ([.row 2 [domV d], .row 1 (d.vals.map (V.int .i64))] ++ t1 ++ t2) x1 := w1.keep fun i r hi _ => get_lt (List.getElem?_eq_some_iff.1 hi).1
  have hx1 : ∀ id zs, x1 = .own id 0 zs zs → id < ([Ob.row 2 [domV d], .row 1 (d.vals.map (V.int .i64))] ++ t1).length := fun id zs e => by
    subst e
    rcases w1 with h | h | ⟨id2, zs2, -, h, g, -⟩
    · cases h
    · cases h
    · cases h
      exact (List.getElem?_eq_some_iff.1 g).1
  obtain ⟨k1, h1, m1, lp1, fr1, ow1, len1⟩ := own_in v (.ptr 0 0 0 1) (.agg [x1, .int .u64 n1, x2, .int .u64 n2]) (iv 0) (.own 1 0 d.vals.length d.vals.length) x1 n1 2 _ w1'
  have w2' := ow1 _ _ ⟨_, Nat.le_refl _, hx1⟩ w2
  obtain ⟨k2, h2, m2, lp2, fr2, -, len2⟩ := own_in v (.ptr 0 0 0 1) (.agg [x1, .int .u64 n1, x2, .int .u64 n2]) (iv 1) (.own 1 0 d.vals.length d.vals.length) x2 n2 _ h1 w2'
  obtain ⟨x3, h3, f3, w3, fr3, len3⟩ := oList d hd hdl h2
  obtain ⟨k3, h4, m3, lp3, fr4⟩ := own_list v (.ptr 0 0 0 1) (.own 1 0 d.vals.length d.vals.length) x3 _ h3 w3
  have r1 : ∀ j, j < 2 → h1[j]? = [Ob.row 2 [domV d], .row 1 (d.vals.map (V.int .i64))][j]? := fun j hj => by
    rw [fr1 j hj (by simp; omega), List.append_assoc, get_lt (by simp; omega)]
  have r2 : ∀ j, j < 2 → h2[j]? = [Ob.row 2 [domV d], .row 1 (d.vals.map (V.int .i64))][j]? := fun j hj => by
    rw [fr2 j (by simp; omega) (by rw [len1]; simp; omega), r1 j hj]
  have r4 : ∀ j, j < 2 → h4[j]? = [Ob.row 2 [domV d], .row 1 (d.vals.map (V.int .i64))][j]? := fun j hj => by
    rw [fr4 j (by rw [len2, len1]; simp; omega), fr3 j (by rw [len2, len1]; simp; omega), r2 j hj]
  have a0 := r2 0 (by omega)
  have b0 := r4 0 (by omega)
  have b1 := r4 1 (by omega)
  simp at a0 b0 b1
  have ks : acw C n_ref02_Same [intsV d.vals, .own 1 0 d.vals.length d.vals.length] h4 = some (.ret (.bool true), h4) := by
    have q := ref02_same d.vals d.vals (by omega) []
    simp only [decide_true] at q
    refine acw_of_frz (CT T_ref02_Same) rfl (a2 := [intsV d.vals, intsV d.vals]) ?_ rfl q rfl
    show mapO (RR.frz h4 12) _ = _
    simp only [mapO, frz_own_ints (h := h4) (id := 1) (l := d.vals) b1 rfl 10, show RR.frz h4 12 (intsV d.vals) = some (intsV d.vals) from rfl]
  obtain ⟨q1, q2, q3, q4⟩ := w1.good
  obtain ⟨p1, p2, p3, p4⟩ := w2.good
  have lE : ∀ g, evw C y0 i_law04_DomOwn_l1 [(1, iv v), (2, .ptr 0 0 0 1), (5, .own 1 0 d.vals.length d.vals.length), (27, .agg [x1, .int .u64 n1, x2, .int .u64 n2]), (28, iv 2)] g = some (.ext 0, [(1, iv v), (2, .ptr 0 0 0 1), (5, .own 1 0 d.vals.length d.vals.length), (27, .agg [x1, .int .u64 n1, x2, .int .u64 n2]), (28, iv 2), (29, .bool false)], g) := fun g => by
    rw [r_law04_DomOwn_1]
    simp [b_law04_DomOwn_1]
  have lB : evw C y0 i_law04_DomOwn_l1 [(1, iv v), (2, .ptr 0 0 0 1), (5, .own 1 0 d.vals.length d.vals.length), (27, .agg [x1, .int .u64 n1, x2, .int .u64 n2]), (28, iv 1)] h1 = some (.ext 0, [(1, iv v), (2, .ptr 0 0 0 1), (5, .own 1 0 d.vals.length d.vals.length), (27, .agg [x1, .int .u64 n1, x2, .int .u64 n2]), (28, iv 2), (29, .bool false)], h2) := by
    rw [r_law04_DomOwn_1, ← lE]
    simp [b_law04_DomOwn_1, p1, m2, lp2]
  have lA : evw C y0 i_law04_DomOwn_l1 [(1, iv v), (2, .ptr 0 0 0 1), (5, .own 1 0 d.vals.length d.vals.length), (27, .agg [x1, .int .u64 n1, x2, .int .u64 n2]), (28, iv 0)] ([.row 2 [domV d], .row 1 (d.vals.map (V.int .i64))] ++ t1 ++ t2) = some (.ext 0, [(1, iv v), (2, .ptr 0 0 0 1), (5, .own 1 0 d.vals.length d.vals.length), (27, .agg [x1, .int .u64 n1, x2, .int .u64 n2]), (28, iv 2), (29, .bool false)], h2) := by
    obtain ⟨G, hG⟩ : ∃ G, G = [.row 2 [domV d], .row 1 (d.vals.map (V.int .i64))] ++ t1 ++ t2 := ⟨_, rfl⟩
    rw [← hG] at m1 lp1 ⊢
    rw [r_law04_DomOwn_1, ← lB]
    simp [b_law04_DomOwn_1, q1, m1, lp1]
  simp at f1 f2 lA
  simp [runW_fin, F_law04_DomOwn, i_law04_DomOwn, k0, c2, kA, kW, f1, f2, q1, q2, q3, p1, p2, p3, lA, a0, f3, m3, lp3, b0, ks]
end Go.RR.M
