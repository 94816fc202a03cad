/- Numbers' bytes, what bytes begin with, and marks: the program's functions and the document's, as functions of lists, are one; numbers come back from their bytes. -/
import Derived.Test.YtblfcmjcdclijaaQx12
import Derived.Test.YtblfcmjcdclijaaQx13
import Derived.Test.YtblfcmjcdclijaaQx15
import Derived.Test.YtblfcmjcdclijaaQx16
import Derived.Test.YtblfcmjcdclijaaQx2
import Derived.Test.YtblfcmjcdclijaaQx3
import Derived.Test.YtblfcmjcdclijaaHOct
namespace Go.Proofs.Ytblfcmjcdclijaa.Pure
open Go.RowKit Go.Proofs.Ytblfcmjcdclijaa.Q Go.Proofs.YtblfcmjcdclijaaW.PrintWords Go.Proofs.YtblfcmjcdclijaaW.PrintLast
set_option linter.unusedSimpArgs false
set_option linter.unusedVariables false

theorem w64 {n : Int} (h0 : -9223372036854775808 ≤ n) (h1 : n ≤ 9223372036854775807) : wrap64 n = n := by unfold wrap64; omega
theorem u64 {n : Int} (h0 : 0 ≤ n) (h1 : n < 18446744073709551616) : IntKind.u64.wrap n = n := by rw [IntKind.wrap_u64]; omega
/-- n's last m bytes, the highest first. -/
def be (n : Int) : Nat → List Int
  | 0 => []
  | m + 1 => be (n / 256) m ++ [n % 256]
theorem be_len (n : Int) (m : Nat) : (be n m).length = m := by
  induction m generalizing n with
  | zero => rfl
  | succ m ih => simp [be, ih]
theorem bytes_l (j : Nat) : ∀ (k : Nat) (n : Int) (l : List Int), 0 ≤ n → n < 18446744073709551616 → j ≤ l.length → l.length ≤ 8 → j < k → stratagemref06_bytes.l0 k n l ((j : Int) - 1) = some (be n j ++ l.drop j) := by
  induction j with
  | zero =>
    intro k n l h0 h1 hj hl hk
    obtain ⟨k, rfl⟩ : ∃ m, k = m + 1 := ⟨k - 1, by omega⟩
    simp only [stratagemref06_bytes.l0]
    rw [if_neg (by omega)]
    simp [be]
  | succ j ih =>
    intro k n l h0 h1 hj hl hk
    obtain ⟨k, rfl⟩ : ∃ m, k = m + 1 := ⟨k - 1, by omega⟩
    simp only [stratagemref06_bytes.l0]
    rw [if_pos (by omega), if_pos (by omega), if_pos (by omega), Int.tdiv_eq_ediv_of_nonneg h0, Int.tmod_eq_emod_of_nonneg h0, u64 (by omega) (by omega), w64 (by omega) (by omega)]
    rw [show ((j + 1 : Nat) : Int) - 1 - 1 = (j : Int) - 1 by omega, ih k (n / 256) _ (by omega) (by omega) (by simp; omega) (by simp; omega) (by omega)]
    rw [show (((j + 1 : Nat) : Int) - 1).toNat = j by omega, show n % 256 % 256 = n % 256 by omega]
    simp only [be, List.append_assoc]
    congr 2
    rw [List.drop_set, if_neg (by omega)]
    have e := List.drop_eq_getElem_cons (show j < l.length by omega)
    rw [Nat.sub_self, e]
    rfl
theorem bytes_f (n : Int) (m k : Nat) (h0 : 0 ≤ n) (h1 : n < 18446744073709551616) (hm : m ≤ 8) (hk : 9 ≤ k) : stratagemref06_bytes.f k n m = some (be n m) := by
  unfold stratagemref06_bytes.f
  rw [if_pos (by omega), Int.toNat_natCast, if_pos (by omega), w64 (by omega) (by omega), bytes_l m k n _ h0 h1 (by simp) (by simp; omega) (by omega)]
  simp
theorem size_f (n : Int) : stratagemref06_size.f n = some ((2 ^ kindN n : Nat) : Int) := by
  unfold stratagemref06_size.f kindN
  by_cases h1 : n < 64
  · rw [if_pos h1, if_neg (by omega), if_neg (by omega), if_neg (by omega)]; rfl
  by_cases h2 : n < 16384
  · rw [if_neg h1, if_pos h2, if_neg (by omega), if_neg (by omega), if_pos (by omega)]; rfl
  by_cases h3 : n < 1073741824
  · rw [if_neg h1, if_neg h2, if_pos h3, if_neg (by omega), if_pos (by omega)]; rfl
  rw [if_neg h1, if_neg h2, if_neg h3, if_pos (by omega)]; rfl
theorem kind4 (n : Int) : kindN n < 4 := by unfold kindN; split; · omega
                                            split; · omega
                                            split <;> omega
theorem be8_be (n : Int) : be8 n 8 = be n 8 := by
  simp [be8, be, List.range_succ, Int.ediv_ediv_of_nonneg]
theorem be_drop (n : Int) (m j : Nat) (h : j ≤ m) : (be n m).drop (m - j) = be n j := by
  induction m generalizing n j with
  | zero => obtain rfl : j = 0 := by omega
            rfl
  | succ m ih =>
    cases j with
    | zero => simp [be, be_len]
    | succ j =>
      simp only [be]
      rw [show m + 1 - (j + 1) = m - j by omega, List.drop_append_of_le_length (by rw [be_len]; omega), ih _ _ (by omega)]
theorem first_lt (n : Int) (h0 : 0 ≤ n) (h1 : n < 4611686018427387904) : 0 ≤ rd (be n (2 ^ kindN n)) 0 ∧ rd (be n (2 ^ kindN n)) 0 < 64 := by
  unfold kindN
  by_cases h3 : n ≥ 1073741824
  · rw [if_pos h3]
    have e : rd (be n (2 ^ 3)) 0 = n / 256 / 256 / 256 / 256 / 256 / 256 / 256 % 256 := rfl
    rw [e]; omega
  rw [if_neg h3]
  by_cases h2 : n ≥ 16384
  · rw [if_pos h2]
    have e : rd (be n (2 ^ 2)) 0 = n / 256 / 256 / 256 % 256 := rfl
    rw [e]; omega
  rw [if_neg h2]
  by_cases h4 : n ≥ 64
  · rw [if_pos h4]
    have e : rd (be n (2 ^ 1)) 0 = n / 256 % 256 := rfl
    rw [e]; omega
  rw [if_neg h4]
  have e : rd (be n (2 ^ 0)) 0 = n % 256 := rfl
  rw [e]; omega
theorem put_be (n : Int) : putB n = (be n (2 ^ kindN n)).set 0 (rd (be n (2 ^ kindN n)) 0 + 64 * kindN n) := by
  unfold putB
  have h := kind4 n
  have h8 : 2 ^ kindN n ≤ 8 := Nat.pow_le_pow_right (n := 2) (by omega) (show kindN n ≤ 3 by omega)
  rw [be8_be, be_drop n 8 _ h8]
theorem put_ref (n : Int) (k : Nat) (h0 : 0 ≤ n) (hk : 9 ≤ k) : stratagemref06_Put.f k n = octet_Put.f n := by
  unfold stratagemref06_Put.f octet_Put.f
  by_cases h : n ≥ 4611686018427387904
  · rw [if_pos h, if_pos (by omega)]
  rw [if_neg h, if_neg (by omega), if_pos h0, size_f, put_be]
  simp only [Option.bind_some]
  have h8 : 2 ^ kindN n ≤ 8 := Nat.pow_le_pow_right (n := 2) (by omega) (show kindN n ≤ 3 by have := kind4 n; omega)
  have h1 : 1 ≤ 2 ^ kindN n := Nat.one_le_two_pow
  obtain ⟨f0, f1⟩ := first_lt n h0 (by omega)
  rw [bytes_f n _ k h0 (by omega) h8 hk]
  simp only [Option.bind_some]
  obtain ⟨m, hm⟩ : ∃ m, m = 2 ^ kindN n := ⟨_, rfl⟩
  have hlen : (([0, 0, 64, 0, 128, 0, 0, 0, 192] : List Int).length : Int) = 9 := rfl
  rw [if_pos (by rw [be_len]; omega), if_pos (by omega), if_pos (by rw [hlen, ← hm]; rw [← hm] at h8; omega)]
  have ht : rd ([0, 0, 64, 0, 128, 0, 0, 0, 192] : List Int) ((2 ^ kindN n : Nat) : Int) = 64 * (kindN n : Int) := by
    have := kind4 n
    obtain h | h | h | h : kindN n = 0 ∨ kindN n = 1 ∨ kindN n = 2 ∨ kindN n = 3 := by omega
    all_goals rw [h]; rfl
  rw [ht]
  have hk4 := kind4 n
  rw [show (rd (be n (2 ^ kindN n)) 0 + 64 * (kindN n : Int)) % 256 = rd (be n (2 ^ kindN n)) 0 + 64 * (kindN n : Int) by omega]
  rfl
/-- What is read behind the first byte. -/
theorem take_l (d : Nat) : ∀ (k : Nat) (l : List Int) (many i : Nat) (n : Int), l.all byteB = true → many ≤ l.length → l.length ≤ 140737488351232 → 1 ≤ i → i + d = many → 0 ≤ n → n * 256 ^ d + 256 ^ d ≤ 4611686018427387904 → d < k →
    stratagemref06_Take.l0 k l many n i = (stratagemref06_size.f (foldB ((l.drop i).take d) n)).bind fun t => if t = many then some (foldB ((l.drop i).take d) n, (many : Int), 0) else some (0, 0, 2) := by
  induction d with
  | zero =>
    intro k l many i n hb hm hl hi hd h0 h1 hk
    obtain ⟨k, rfl⟩ : ∃ m, k = m + 1 := ⟨k - 1, by omega⟩
    simp only [stratagemref06_Take.l0]
    rw [if_neg (by omega)]
    simp [foldB]
  | succ d ih =>
    intro k l many i n hb hm hl hi hd h0 h1 hk
    obtain ⟨k, rfl⟩ : ∃ m, k = m + 1 := ⟨k - 1, by omega⟩
    simp only [stratagemref06_Take.l0]
    obtain ⟨b0, b1⟩ := rd_byte hb (i : Int)
    have hp : (0 : Int) < 256 ^ d := Int.pow_pos (by omega)
    have hpow : (256 : Int) ^ (d + 1) = 256 ^ d * 256 := Int.pow_succ _ _
    have h2 : (n * 256 + 256) * 256 ^ d ≤ 4611686018427387904 := by
      rw [hpow] at h1
      have : (n * 256 + 256) * 256 ^ d = n * (256 ^ d * 256) + 256 ^ d * 256 := by rw [Int.add_mul, Int.mul_assoc, Int.mul_comm 256 (256 ^ d)]
      omega
    have h3 : n * 256 + 256 ≤ 4611686018427387904 := by
      have := Int.mul_le_mul_of_nonneg_left (show (1 : Int) ≤ 256 ^ d by omega) (show 0 ≤ n * 256 + 256 by omega)
      omega
    rw [if_pos (by omega), if_pos (by omega), if_pos (by omega), u64 (n := rd l i) b0 (by omega), u64 (n := 256 * n) (by omega) (by omega), u64 (by omega) (by omega), w64 (by omega) (by omega)]
    have h4 : (256 * n + rd l i) * 256 ^ d + 256 ^ d ≤ 4611686018427387904 := by
      refine Int.le_trans ?_ h2
      have : (256 * n + rd l i) * 256 ^ d + 256 ^ d = (256 * n + rd l i + 1) * 256 ^ d := by rw [Int.add_mul (256 * n + rd l i) 1, Int.one_mul]
      rw [this]
      exact Int.mul_le_mul_of_nonneg_right (by omega) (by omega)
    rw [show (i : Int) + 1 = ((i + 1 : Nat) : Int) by omega, ih k l many (i + 1) _ hb hm hl (by omega) (by omega) (by omega) h4 (by omega)]
    have e : (l.drop i).take (d + 1) = rd l i :: (l.drop (i + 1)).take d := by
      rw [List.drop_eq_getElem_cons (show i < l.length by omega), List.take_succ_cons]
      congr 1
      unfold rd
      rw [Int.toNat_natCast, List.getD_eq_getElem?_getD, List.getElem?_eq_getElem (by omega)]; rfl
    rw [e]
    simp only [foldB, List.foldl_cons]
    rw [Int.mul_comm 256 n]
theorem take_ref (l : List Int) (k : Nat) (hb : l.all byteB = true) (hl : l.length ≤ 140737488351232) (hk : 9 ≤ k) : stratagemref06_Take.f k l = octet_Take.f l := by
  unfold stratagemref06_Take.f octet_Take.f
  rw [if_pos hb]
  by_cases h : l.length = 0
  · rw [if_pos (by omega), if_pos h]
  rw [if_neg (by omega), if_neg h]
  simp only [Option.bind_some]
  obtain ⟨b0, b1⟩ := rd_byte hb 0
  rw [if_pos (by omega), Int.tdiv_eq_ediv_of_nonneg b0, Int.tmod_eq_emod_of_nonneg b0, show rd l 0 / 64 % 256 = rd l 0 / 64 by omega, show (([1, 2, 4, 8] : List Int).length : Int) = 4 from rfl, if_pos (by omega), if_pos (by omega), u64 (by omega) (by omega)]
  obtain ⟨kk, hkk⟩ : ∃ kk : Nat, rd l 0 / 64 = (kk : Int) := ⟨(rd l 0 / 64).toNat, by omega⟩
  rw [hkk, Int.toNat_natCast]
  have hk4 : kk < 4 := by omega
  have ht : rd ([1, 2, 4, 8] : List Int) (kk : Int) = ((2 ^ kk : Nat) : Int) := by
    obtain h | h | h | h : kk = 0 ∨ kk = 1 ∨ kk = 2 ∨ kk = 3 := by omega
    all_goals rw [h]; rfl
  rw [ht]
  have h8 : 2 ^ kk ≤ 8 := Nat.pow_le_pow_right (n := 2) (by omega) (show kk ≤ 3 by omega)
  have h1 : 1 ≤ 2 ^ kk := Nat.one_le_two_pow
  have hinj : ∀ n, (((2 ^ kindN n : Nat) : Int) = ((2 ^ kk : Nat) : Int)) ↔ kindN n = kk := by
    intro n
    constructor
    · intro h
      have h2 : 2 ^ kindN n = 2 ^ kk := by exact_mod_cast h
      exact (Nat.pow_right_inj (by decide)).1 h2
    · intro h; rw [h]
  obtain ⟨m, hm⟩ : ∃ m, m = 2 ^ kk := ⟨_, rfl⟩
  rw [← hm] at h8 h1 hinj ⊢
  by_cases h2 : l.length < m
  · rw [if_pos (by omega), if_pos h2]
  rw [if_neg (by omega), if_neg h2]
  have hbound : rd l 0 % 64 * 256 ^ (m - 1) + 256 ^ (m - 1) ≤ 4611686018427387904 := by
    have h3 : rd l 0 % 64 * 256 ^ (m - 1) + 256 ^ (m - 1) = (rd l 0 % 64 + 1) * 256 ^ (m - 1) := by rw [Int.add_mul, Int.one_mul]
    rw [h3]
    have h4 : ((256 : Int) ^ (m - 1)) ≤ 72057594037927936 := by
      have h := Nat.pow_le_pow_right (n := 256) (by omega) (show m - 1 ≤ 7 by omega)
      have e2 : (256 : Int) ^ (m - 1) = ((256 ^ (m - 1) : Nat) : Int) := by simp
      rw [e2]
      omega
    have h5 : (rd l 0 % 64 + 1) * 256 ^ (m - 1) ≤ 64 * 256 ^ (m - 1) := Int.mul_le_mul_of_nonneg_right (by omega) (Int.le_of_lt (Int.pow_pos (by omega)))
    omega
  have hr := take_l (m - 1) k l m 1 (rd l 0 % 64) hb (by omega) hl (by omega) (by omega) (by omega) hbound (by omega)
  rw [show ((1 : Nat) : Int) = 1 from rfl] at hr
  rw [hr, size_f]
  simp only [Option.bind_some]
  by_cases h6 : kindN (foldB ((l.drop 1).take (m - 1)) (rd l 0 % 64)) = kk
  · rw [if_pos ((hinj _).2 h6), if_pos h6]
  · rw [if_neg (fun h => h6 ((hinj _).1 h)), if_neg h6]
theorem same_refl (k : Nat) (l : List Int) (hl : l.length ≤ 140737488351232) (hk : l.length < k) : stratagemref06_Same.f k l l = some true := by
  unfold stratagemref06_Same.f
  rw [if_pos rfl]
  have key : ∀ (d k i : Nat), i + d = l.length → d < k → stratagemref06_Same.l0 k l l i = some true := by
    intro d
    induction d with
    | zero =>
      intro k i h hk
      obtain ⟨k, rfl⟩ : ∃ m, k = m + 1 := ⟨k - 1, by omega⟩
      simp only [stratagemref06_Same.l0]
      rw [if_neg (by omega)]
    | succ d ih =>
      intro k i h hk
      obtain ⟨k, rfl⟩ : ∃ m, k = m + 1 := ⟨k - 1, by omega⟩
      simp only [stratagemref06_Same.l0]
      rw [if_pos (by omega), if_pos (by omega), if_pos (by omega), if_pos trivial, w64 (by omega) (by omega)]
      exact ih k (i + 1) (by omega) (by omega)
  exact key l.length k 0 (by omega) hk
/-- The mark of bytes. -/
def mixB (n c : Nat) : Nat := ((n ^^^ c) * 1099511628211) % 18446744073709551616
def foldM (f : Nat → Nat → Nat) (l : List Int) (n : Nat) : Nat := (l.map Int.toNat).foldl f n
theorem foldM_cons (f : Nat → Nat → Nat) (c : Nat) (l : List Int) (n : Nat) : foldM f ((c : Int) :: l) n = foldM f l (f n c) := by simp [foldM]
theorem foldM_snoc (f : Nat → Nat → Nat) (c : Nat) (l : List Int) (n : Nat) : foldM f (l ++ [(c : Int)]) n = f (foldM f l n) c := by simp [foldM]
theorem foldM_lt (f : Nat → Nat → Nat) (M : Nat) (hf : ∀ n c, f n c < M) (l : List Int) (n : Nat) (hn : n < M) : foldM f l n < M := by
  unfold foldM
  generalize l.map Int.toNat = m
  induction m generalizing n with
  | nil => exact hn
  | cons c m ih => exact ih _ (hf _ _)
def markB (l : List Int) (n : Nat) : Nat := foldM mixB l n
theorem markB_cons (c : Nat) (l : List Int) (n : Nat) : markB ((c : Int) :: l) n = markB l (mixB n c) := foldM_cons mixB c l n
theorem markB_snoc (l : List Int) (c n : Nat) : markB (l ++ [(c : Int)]) n = mixB (markB l n) c := foldM_snoc mixB c l n
theorem mixB_lt (n c : Nat) : mixB n c < 18446744073709551616 := Nat.mod_lt _ (by decide)
theorem xor_nat (k : IntKind) (j : Nat) (hj : j ≤ k.bits) (hk : ∀ n : Int, 0 ≤ n → n < 2 ^ j → k.wrap n = n) (a b : Nat) (ha : a < 2 ^ j) (hb : b < 2 ^ j) : bits .xor k a b = ((a ^^^ b : Nat) : Int) := by
  have hp : 2 ^ j ≤ 2 ^ k.bits := Nat.pow_le_pow_right (by decide) hj
  have ha' : a % 2 ^ k.bits = a := Nat.mod_eq_of_lt (Nat.lt_of_lt_of_le ha hp)
  have hb' : b % 2 ^ k.bits = b := Nat.mod_eq_of_lt (Nat.lt_of_lt_of_le hb hp)
  have cast : ∀ n : Nat, n < 2 ^ j → ((n : Nat) : Int) < 2 ^ j := fun n h => by exact_mod_cast h
  simp only [bits, BitVec.ofInt_natCast, BitVec.toNat_xor, BitVec.toNat_ofNat, ha', hb']
  exact hk _ (Int.natCast_nonneg _) (cast _ (Nat.xor_lt_two_pow ha hb))
theorem xor_u64 (a b : Nat) (ha : a < 18446744073709551616) (hb : b < 18446744073709551616) : bits .xor .u64 (a : Int) (b : Int) = ((a ^^^ b : Nat) : Int) :=
  xor_nat .u64 64 (by decide) wraps_u64 a b (by omega) (by omega)
theorem mark_l (d : Nat) : ∀ (k i n : Nat) (l : List Int), l.all byteB = true → l.length ≤ 140737488351232 → i + d = l.length → n < 18446744073709551616 → d < k → octet_Mark.l0 k n l l.length i = some ((markB (l.drop i) n : Nat) : Int) := by
  induction d with
  | zero =>
    intro k i n l hb hl hi hn hk
    obtain ⟨k, rfl⟩ : ∃ m, k = m + 1 := ⟨k - 1, by omega⟩
    simp only [octet_Mark.l0]
    rw [if_neg (by omega), List.drop_of_length_le (by omega)]
    rfl
  | succ d ih =>
    intro k i n l hb hl hi hn hk
    obtain ⟨k, rfl⟩ : ∃ m, k = m + 1 := ⟨k - 1, by omega⟩
    simp only [octet_Mark.l0]
    obtain ⟨b0, b1⟩ := rd_byte hb (i : Int)
    obtain ⟨c, hc⟩ := Int.eq_ofNat_of_zero_le b0
    rw [if_pos (by omega), if_pos (by omega), if_pos (by omega), u64 (n := rd l i) b0 (by omega), hc, xor_u64 n c hn (by omega), w64 (by omega) (by omega)]
    have e1 : IntKind.u64.wrap (((n ^^^ c : Nat) : Int) * 1099511628211) = ((mixB n c : Nat) : Int) := by
      rw [IntKind.wrap_u64]; unfold mixB; omega
    have e : l.drop i = rd l i :: l.drop (i + 1) := by
      rw [List.drop_eq_getElem_cons (show i < l.length by omega)]
      congr 1
      unfold rd
      rw [Int.toNat_natCast, List.getD_eq_getElem?_getD, List.getElem?_eq_getElem (by omega)]; rfl
    rw [e1, show (i : Int) + 1 = ((i + 1 : Nat) : Int) by omega, ih k (i + 1) _ l hb hl (by omega) (mixB_lt _ _) (by omega), e, hc, markB_cons]
theorem mark_f (l : List Int) (k : Nat) (hb : l.all byteB = true) (hl : l.length ≤ 140737488351232) (hk : l.length < k) : octet_Mark.f k l = some ((markB l 14695981039346656037 : Nat) : Int) :=
  mark_l l.length k 0 14695981039346656037 l hb hl (by omega) (by decide) hk
theorem turn_l (d : Nat) : ∀ (k i a b o t : Nat), i + d = 8 → t * 2 ^ d ≤ 256 → o ≤ t → a < 2 ^ d → b < 2 ^ d → d < k → stratagemref06_turn.l0 k a b o t i = some ((o + t * (a ^^^ b) : Nat) : Int) := by
  induction d with
  | zero =>
    intro k i a b o t hi ht ho ha hb hk
    obtain ⟨k, rfl⟩ : ∃ m, k = m + 1 := ⟨k - 1, by omega⟩
    simp only [stratagemref06_turn.l0]
    obtain rfl : a = 0 := by omega
    obtain rfl : b = 0 := by omega
    rw [if_neg (by omega)]
    simp
  | succ d ih =>
    intro k i a b o t hi ht ho ha hb hk
    obtain ⟨k, rfl⟩ : ∃ m, k = m + 1 := ⟨k - 1, by omega⟩
    simp only [stratagemref06_turn.l0]
    have hp : 1 ≤ 2 ^ d := Nat.one_le_two_pow
    have hpow : 2 ^ (d + 1) = 2 ^ d * 2 := Nat.pow_succ _ _
    have h256 : 2 ^ (d + 1) ≤ 256 := Nat.pow_le_pow_right (n := 2) (by omega) (show d + 1 ≤ 8 by omega)
    have ht2 : 2 * t * 2 ^ d ≤ 256 := by rw [hpow] at ht; rw [Nat.mul_comm 2 t, Nat.mul_assoc, Nat.mul_comm 2]; exact ht
    have ht1 : t ≤ 256 := Nat.le_trans (Nat.le_mul_of_pos_right t (by omega)) ht
    have ht3 : 2 * t * 2 ^ d = t * 2 ^ (d + 1) := by rw [hpow, Nat.mul_comm 2 t, Nat.mul_assoc, Nat.mul_comm 2]
    have ht4 : t ≤ t * 2 ^ (d + 1) := Nat.le_mul_of_pos_right t (by omega)
    have hx : a ^^^ b = 2 * (a / 2 ^^^ b / 2) + (a % 2 ^^^ b % 2) := by
      have h1 := Nat.xor_div_two_pow (a := a) (b := b) (n := 1)
      have h2 := Nat.xor_mod_two_pow (a := a) (b := b) (n := 1)
      simp only [Nat.pow_one] at h1 h2
      omega
    rw [if_pos (by omega), Int.tmod_eq_emod_of_nonneg (by omega), Int.tmod_eq_emod_of_nonneg (by omega), Int.tdiv_eq_ediv_of_nonneg (by omega), Int.tdiv_eq_ediv_of_nonneg (by omega), u64 (n := (a : Int) / 2) (by omega) (by omega), u64 (n := (b : Int) / 2) (by omega) (by omega), u64 (n := 2 * (t : Int)) (by omega) (by omega), u64 (n := (o : Int) + t) (by omega) (by omega), w64 (by omega) (by omega)]
    rw [show (a : Int) / 2 = ((a / 2 : Nat) : Int) by omega, show (b : Int) / 2 = ((b / 2 : Nat) : Int) by omega, show (2 : Int) * t = ((2 * t : Nat) : Int) by omega, show (i : Int) + 1 = ((i + 1 : Nat) : Int) by omega]
    by_cases hc : a % 2 = b % 2
    · rw [if_pos (by omega), ih k (i + 1) (a / 2) (b / 2) o (2 * t) (by omega) ht2 (by omega) (by omega) (by omega) (by omega), hx, hc, Nat.xor_self]
      congr 2
      rw [Nat.add_zero, Nat.mul_assoc, Nat.mul_left_comm]
    · rw [if_neg (by omega), show (o : Int) + t = ((o + t : Nat) : Int) by omega, ih k (i + 1) (a / 2) (b / 2) (o + t) (2 * t) (by omega) ht2 (by omega) (by omega) (by omega) (by omega), hx]
      have e : a % 2 ^^^ b % 2 = 1 := by
        have h1 := Nat.mod_two_eq_zero_or_one a
        have h2 := Nat.mod_two_eq_zero_or_one b
        rcases h1 with h1 | h1 <;> rcases h2 with h2 | h2 <;> rw [h1, h2] <;> first | rfl | omega
      rw [e]
      congr 2
      rw [Nat.mul_add, Nat.mul_one, Nat.mul_assoc, Nat.mul_left_comm]
      omega
theorem turn_f (a b k : Nat) (ha : a < 256) (hb : b < 256) (hk : 9 ≤ k) : stratagemref06_turn.f k a b = some ((a ^^^ b : Nat) : Int) := by
  have h := turn_l 8 k 0 a b 0 1 (by omega) (by omega) (by omega) ha hb (by omega)
  rw [Nat.zero_add, Nat.one_mul] at h
  exact h
theorem xor_low (n c : Nat) (hc : c < 256) : n - n % 256 + (n % 256 ^^^ c) = n ^^^ c := by
  have h1 := Nat.xor_div_two_pow (a := n) (b := c) (n := 8)
  have h2 := Nat.xor_mod_two_pow (a := n) (b := c) (n := 8)
  rw [show 2 ^ 8 = 256 from rfl] at h1 h2
  rw [show c / 256 = 0 by omega, Nat.xor_zero] at h1
  rw [show c % 256 = c by omega] at h2
  omega
theorem markref_l (d : Nat) : ∀ (k i n : Nat) (l : List Int), l.all byteB = true → l.length ≤ 140737488351232 → i + d = l.length → n < 18446744073709551616 → d + 9 < k → stratagemref06_Mark.l0 k l n i = some ((markB (l.drop i) n : Nat) : Int) := by
  induction d with
  | zero =>
    intro k i n l hb hl hi hn hk
    obtain ⟨k, rfl⟩ : ∃ m, k = m + 1 := ⟨k - 1, by omega⟩
    simp only [stratagemref06_Mark.l0]
    rw [if_neg (by omega), List.drop_of_length_le (by omega)]
    rfl
  | succ d ih =>
    intro k i n l hb hl hi hn hk
    obtain ⟨k, rfl⟩ : ∃ m, k = m + 1 := ⟨k - 1, by omega⟩
    simp only [stratagemref06_Mark.l0]
    obtain ⟨b0, b1⟩ := rd_byte hb (i : Int)
    obtain ⟨c, hc⟩ := Int.eq_ofNat_of_zero_le b0
    have hc' : c < 256 := by omega
    have hx := xor_low n c hc'
    have hlt : (n % 256 ^^^ c) < 2 ^ 8 := Nat.xor_lt_two_pow (by omega) (by omega)
    rw [if_pos (by omega), if_pos (by omega), u64 (n := rd l i) b0 (by omega), hc, Int.tmod_eq_emod_of_nonneg (by omega), show (n : Int) % 256 = ((n % 256 : Nat) : Int) by omega, turn_f (n % 256) c k (by omega) hc' (by omega)]
    simp only [Option.bind_some]
    have hx2 : (n ^^^ c) < 2 ^ 64 := Nat.xor_lt_two_pow (by omega) (by omega)
    rw [u64 (n := (n : Int) - ((n % 256 : Nat) : Int)) (by omega) (by omega), show ((n : Int) - ((n % 256 : Nat) : Int)) + ((n % 256 ^^^ c : Nat) : Int) = ((n ^^^ c : Nat) : Int) by omega, u64 (n := ((n ^^^ c : Nat) : Int)) (by omega) (by omega), w64 (by omega) (by omega)]
    have e1 : IntKind.u64.wrap (((n ^^^ c : Nat) : Int) * 1099511628211) = ((mixB n c : Nat) : Int) := by
      rw [IntKind.wrap_u64]; unfold mixB; omega
    have e : l.drop i = rd l i :: l.drop (i + 1) := by
      rw [List.drop_eq_getElem_cons (show i < l.length by omega)]
      congr 1
      unfold rd
      rw [Int.toNat_natCast, List.getD_eq_getElem?_getD, List.getElem?_eq_getElem (by omega)]; rfl
    rw [e1, show (i : Int) + 1 = ((i + 1 : Nat) : Int) by omega, ih k (i + 1) _ l hb hl (by omega) (mixB_lt _ _) (by omega), e, hc, markB_cons]
theorem markref_f (l : List Int) (k : Nat) (hb : l.all byteB = true) (hl : l.length ≤ 140737488351232) (hk : l.length + 9 < k) : stratagemref06_Mark.f k l = some ((markB l 14695981039346656037 : Nat) : Int) :=
  markref_l l.length k 0 14695981039346656037 l hb hl (by omega) (by decide) hk
theorem byte_wf {x : Int} (h : (Lit.int .u8 x).wf = true) : 0 ≤ x ∧ x ≤ 255 := by
  simp [Lit.wf, IntKind.min, IntKind.max, IntKind.bits, IntKind.signed] at h
  omega
theorem u64_wf {x : Int} (h : (Lit.int .u64 x).wf = true) : 0 ≤ x ∧ x < 18446744073709551616 := by
  simp [Lit.wf, IntKind.min, IntKind.max, IntKind.bits, IntKind.signed] at h
  omega
theorem bytes_of {l : List Int} (h : ∀ x ∈ l, (Lit.int .u8 x).wf = true) : l.all byteB = true := by
  rw [List.all_eq_true]
  intro x hx
  have := byte_wf (h x hx)
  simp [byteB, this]
/-! What numbers' bytes are. -/
theorem put_some (n : Int) (h0 : 0 ≤ n) : octet_Put.f n = some (if n > 4611686018427387903 then [] else putB n, if n > 4611686018427387903 then 5 else 0) := by
  unfold octet_Put.f
  by_cases h : n > 4611686018427387903
  · rw [if_pos h, if_pos h, if_pos h]
  · rw [if_neg h, if_neg h, if_neg h, if_pos h0]
theorem pow_kind (n : Int) : 1 ≤ 2 ^ kindN n ∧ 2 ^ kindN n ≤ 8 :=
  ⟨Nat.one_le_two_pow, Nat.pow_le_pow_right (n := 2) (by omega) (show kindN n ≤ 3 by have := kind4 n; omega)⟩
theorem putB_len (n : Int) : (putB n).length = 2 ^ kindN n := by
  rw [put_be]
  simp [be_len]
theorem be_cons (n : Int) (m : Nat) (h : 1 ≤ m) : be n m = rd (be n m) 0 :: (be n m).drop 1 := by
  have hl : 0 < (be n m).length := by rw [be_len]; omega
  have e := List.drop_eq_getElem_cons hl
  rw [List.drop_zero] at e
  conv => lhs; rw [e]
  congr 1
  unfold rd
  rw [List.getD_eq_getElem?_getD, show (0 : Int).toNat = 0 from rfl, List.getElem?_eq_getElem hl]; rfl
theorem putB_cons (n : Int) : putB n = (rd (be n (2 ^ kindN n)) 0 + 64 * kindN n) :: (be n (2 ^ kindN n)).drop 1 := by
  rw [put_be]
  conv => lhs; rw [be_cons n _ (pow_kind n).1]
  rfl
theorem foldB_be (m : Nat) : ∀ (n a : Int), 0 ≤ n → foldB (be n m) a = a * 256 ^ m + n % 256 ^ m := by
  induction m with
  | zero => intro n a h; simp [be, foldB]
  | succ m ih =>
    intro n a h
    simp only [be]
    rw [foldB_snoc, ih (n / 256) a (by omega)]
    have hp : (0 : Int) < 256 ^ m := Int.pow_pos (by omega)
    have e1 : (256 : Int) ^ (m + 1) = 256 * 256 ^ m := by rw [Int.pow_succ, Int.mul_comm]
    have e2 : n % (256 * 256 ^ m) = 256 * (n / 256 % 256 ^ m) + n % 256 := by
      have h1 : n = (256 * 256 ^ m) * (n / 256 / 256 ^ m) + (256 * (n / 256 % 256 ^ m) + n % 256) := by
        have a1 := Int.mul_ediv_add_emod (n / 256) (256 ^ m)
        rw [Int.mul_assoc]
        omega
      have a2 := Int.emod_nonneg (n / 256) (show (256 : Int) ^ m ≠ 0 by omega)
      have a3 := Int.emod_lt_of_pos (n / 256) hp
      conv => lhs; rw [h1]
      rw [Int.mul_add_emod_self_left, Int.emod_eq_of_lt (by omega) (by omega)]
    rw [e1, e2, Int.add_mul, Int.mul_assoc, Int.mul_comm (256 ^ m) 256]
    omega
theorem kind_bound (n : Int) (h0 : 0 ≤ n) (h1 : n ≤ 4611686018427387903) : n < 64 * 256 ^ (2 ^ kindN n - 1) := by
  unfold kindN
  by_cases h3 : n ≥ 1073741824
  · rw [if_pos h3]
    have e : (256 : Int) ^ (2 ^ 3 - 1) = 72057594037927936 := by decide
    rw [e]; omega
  rw [if_neg h3]
  by_cases h2 : n ≥ 16384
  · rw [if_pos h2]
    have e : (256 : Int) ^ (2 ^ 2 - 1) = 16777216 := by decide
    rw [e]; omega
  rw [if_neg h2]
  by_cases h4 : n ≥ 64
  · rw [if_pos h4]
    have e : (256 : Int) ^ (2 ^ 1 - 1) = 256 := by decide
    rw [e]; omega
  rw [if_neg h4]
  have e : (256 : Int) ^ (2 ^ 0 - 1) = 1 := by decide
  rw [e]; omega
theorem fold_tail (n : Int) (h0 : 0 ≤ n) (h1 : n ≤ 4611686018427387903) : foldB ((be n (2 ^ kindN n)).drop 1) (rd (be n (2 ^ kindN n)) 0) = n := by
  have h := foldB_be (2 ^ kindN n) n 0 h0
  rw [be_cons n _ (pow_kind n).1] at h
  simp only [foldB, List.foldl_cons] at h ⊢
  rw [show (0 : Int) * 256 + rd (be n (2 ^ kindN n)) 0 = rd (be n (2 ^ kindN n)) 0 by omega] at h
  have hk := kind_bound n h0 h1
  obtain ⟨p1, _⟩ := pow_kind n
  have e : (256 : Int) ^ (2 ^ kindN n) = 256 * 256 ^ (2 ^ kindN n - 1) := by
    obtain ⟨m, hm⟩ : ∃ m, 2 ^ kindN n = m + 1 := ⟨2 ^ kindN n - 1, by omega⟩
    rw [hm, Int.pow_succ, Int.mul_comm]
    simp
  have hp : (0 : Int) < 256 ^ (2 ^ kindN n - 1) := Int.pow_pos (by omega)
  rw [show n % 256 ^ (2 ^ kindN n) = n from Int.emod_eq_of_lt h0 (by rw [e]; omega)] at h
  rw [h]
  simp
theorem byte_be (n : Int) (m : Nat) : (be n m).all byteB = true := by
  induction m generalizing n with
  | zero => rfl
  | succ m ih =>
    simp only [be, List.all_append, ih, Bool.true_and, List.all_cons, List.all_nil, Bool.and_true, byteB]
    simp; omega
theorem byte_put (n : Int) (h0 : 0 ≤ n) (h1 : n ≤ 4611686018427387903) : (putB n).all byteB = true := by
  rw [putB_cons, List.all_cons]
  obtain ⟨f0, f1⟩ := first_lt n h0 (by omega)
  have hk := kind4 n
  rw [all_drop (byte_be n _) 1]
  simp [byteB]; omega
theorem rd_cons (c : Int) (l : List Int) : rd (c :: l) 0 = c := rfl
/-- A number comes back from its bytes, whatever stands behind. -/
theorem take_put (n : Int) (rest : List Int) (h0 : 0 ≤ n) (h1 : n ≤ 4611686018427387903) (hr : rest.all byteB = true) : octet_Take.f (putB n ++ rest) = some (n, ((2 ^ kindN n : Nat) : Int), 0) := by
  obtain ⟨f0, f1⟩ := first_lt n h0 (by omega)
  have hk := kind4 n
  obtain ⟨p1, p2⟩ := pow_kind n
  have hl := putB_len n
  have hf : rd (putB n ++ rest) 0 = rd (be n (2 ^ kindN n)) 0 + 64 * kindN n := by rw [putB_cons, List.cons_append, rd_cons]
  have hd : (rd (be n (2 ^ kindN n)) 0 + 64 * (kindN n : Int)) / 64 = kindN n := by omega
  have hm : (rd (be n (2 ^ kindN n)) 0 + 64 * (kindN n : Int)) % 64 = rd (be n (2 ^ kindN n)) 0 := by omega
  have ht : ((putB n ++ rest).drop 1).take (2 ^ kindN n - 1) = (be n (2 ^ kindN n)).drop 1 := by
    rw [putB_cons, List.cons_append, List.drop_succ_cons, List.drop_zero, List.take_append_of_le_length (by simp [be_len]), List.take_of_length_le (by simp [be_len])]
  unfold octet_Take.f
  rw [if_pos (by rw [List.all_append, byte_put n h0 h1, hr]; rfl), if_neg (by rw [List.length_append]; omega), hf, hd, hm, Int.toNat_natCast, if_neg (by rw [List.length_append]; omega), ht, fold_tail n h0 h1, if_pos rfl]
/-- Cut off, none does. -/
theorem take_cut (n : Int) (j : Nat) (h0 : 0 ≤ n) (h1 : n ≤ 4611686018427387903) (hj : j < 2 ^ kindN n) : octet_Take.f ((putB n).take j) = some (0, 0, 3) := by
  obtain ⟨f0, f1⟩ := first_lt n h0 (by omega)
  have hk := kind4 n
  have hl := putB_len n
  have hlen : ((putB n).take j).length = j := by rw [List.length_take]; omega
  unfold octet_Take.f
  rw [if_pos (all_take (byte_put n h0 h1) j)]
  by_cases hz : j = 0
  · rw [if_pos (by omega)]
  rw [if_neg (by omega)]
  have hf : rd ((putB n).take j) 0 = rd (be n (2 ^ kindN n)) 0 + 64 * kindN n := by
    obtain ⟨i, rfl⟩ : ∃ i, j = i + 1 := ⟨j - 1, by omega⟩
    rw [putB_cons, List.take_succ_cons, rd_cons]
  have hd : (rd (be n (2 ^ kindN n)) 0 + 64 * (kindN n : Int)) / 64 = kindN n := by omega
  rw [hf, hd, Int.toNat_natCast, if_pos (by omega)]
theorem same_f (a b : List Int) (k : Nat) (hl : a.length ≤ 140737488351232) (hk : a.length < k) : stratagemref06_Same.f k a b = some (decide (a = b)) := by
  by_cases hab : a = b
  · subst hab
    rw [same_refl k a hl hk]; simp
  rw [decide_eq_false hab]
  unfold stratagemref06_Same.f
  by_cases hlen : a.length = b.length
  case neg => rw [if_neg (by omega)]
  rw [if_pos (by omega)]
  have key : ∀ (d k i : Nat), i + d = a.length → d < k → a.drop i ≠ b.drop i → stratagemref06_Same.l0 k a b i = some false := by
    intro d
    induction d with
    | zero =>
      intro k i h hk hne
      rw [List.drop_of_length_le (by omega), List.drop_of_length_le (by omega)] at hne
      exact absurd rfl hne
    | succ d ih =>
      intro k i h hk hne
      obtain ⟨k, rfl⟩ : ∃ m, k = m + 1 := ⟨k - 1, by omega⟩
      simp only [stratagemref06_Same.l0]
      rw [if_pos (by omega), if_pos (by omega), if_pos (by omega)]
      by_cases hr : rd a i = rd b i
      · rw [if_pos hr, w64 (by omega) (by omega)]
        refine ih k (i + 1) (by omega) (by omega) (fun he => hne ?_)
        rw [List.drop_eq_getElem_cons (show i < a.length by omega), List.drop_eq_getElem_cons (show i < b.length by omega), he]
        congr 1
        unfold rd at hr
        rw [Int.toNat_natCast, List.getD_eq_getElem?_getD, List.getElem?_eq_getElem (by omega), List.getD_eq_getElem?_getD, List.getElem?_eq_getElem (by omega)] at hr
        exact hr
      · rw [if_neg hr]
  exact key a.length k 0 (by omega) hk hab
theorem putB_inj {n m : Int} (h0 : 0 ≤ n) (h1 : n ≤ 4611686018427387903) (g0 : 0 ≤ m) (g1 : m ≤ 4611686018427387903) (h : putB n = putB m) : n = m := by
  have a := take_put n [] h0 h1 rfl
  have b := take_put m [] g0 g1 rfl
  rw [h, b] at a
  injection a with a
  injection a with a _
  exact a.symm
theorem kind_mono {n m : Int} (h : n ≤ m) : kindN n ≤ kindN m := by
  unfold kindN
  by_cases a1 : n ≥ 1073741824
  · rw [if_pos a1, if_pos (by omega)]; omega
  rw [if_neg a1]
  by_cases a2 : n ≥ 16384
  · rw [if_pos a2]
    split
    · omega
    · rw [if_pos (by omega)]; omega
  rw [if_neg a2]
  by_cases a3 : n ≥ 64
  · rw [if_pos a3]
    split
    · omega
    · split
      · omega
      · rw [if_pos (by omega)]; omega
  rw [if_neg a3]
  omega
/-- Bytes are those of the number that they make. -/
theorem be_fold (m : Nat) : ∀ (l : List Int), l.length = m → l.all byteB = true → be (foldB l 0) m = l := by
  induction m with
  | zero => intro l hl h; rw [List.eq_nil_of_length_eq_zero hl]; rfl
  | succ m ih =>
    intro l hl h
    have hne : l ≠ [] := by intro e; rw [e] at hl; simp at hl
    obtain ⟨i, c, hic⟩ : ∃ i c, l = i ++ [c] := ⟨l.dropLast, l.getLast hne, (List.dropLast_concat_getLast hne).symm⟩
    subst hic
    rw [List.all_append, Bool.and_eq_true] at h
    have hc : 0 ≤ c ∧ c ≤ 255 := by simpa [byteB] using h.2
    have hi : i.length = m := by simpa using hl
    rw [foldB_snoc]
    simp only [be]
    rw [show (foldB i 0 * 256 + c) / 256 = foldB i 0 by omega, show (foldB i 0 * 256 + c) % 256 = c by omega, ih i hi h.1]
theorem take_le_top (l : List Int) (n k : Int) (hb : l.all byteB = true) (h : octet_Take.f l = some (n, k, 0)) :
    0 ≤ n ∧ n ≤ 4611686018427387903 ∧ 1 ≤ k ∧ k ≤ l.length ∧ putB n = l.take k.toNat := by
  have hk := take_k l n k h
  obtain ⟨b0, b1⟩ := rd_byte hb 0
  unfold octet_Take.f at h
  rw [if_pos hb] at h
  by_cases hz : l.length = 0
  · rw [if_pos hz] at h; simp at h
  rw [if_neg hz] at h
  obtain ⟨kk, hkk⟩ : ∃ kk : Nat, rd l 0 / 64 = (kk : Int) := ⟨(rd l 0 / 64).toNat, by omega⟩
  rw [hkk, Int.toNat_natCast] at h
  have hk4 : kk < 4 := by omega
  have h8 : 2 ^ kk ≤ 8 := Nat.pow_le_pow_right (n := 2) (by omega) (show kk ≤ 3 by omega)
  have h1 : 1 ≤ 2 ^ kk := Nat.one_le_two_pow
  by_cases hs : l.length < 2 ^ kk
  · rw [if_pos hs] at h; simp at h
  rw [if_neg hs] at h
  by_cases hkind : kindN (foldB ((l.drop 1).take (2 ^ kk - 1)) (rd l 0 % 64)) = kk
  case neg => rw [if_neg hkind] at h; simp at h
  rw [if_pos hkind] at h
  simp only [Option.some.injEq, Prod.mk.injEq] at h
  obtain ⟨rfl, rfl, _⟩ := h
  have ht := all_take (all_drop hb 1) (2 ^ kk - 1)
  have hb2 := foldB_bound ht (rd l 0 % 64) 6 (by omega) (by omega)
  have hlen : ((l.drop 1).take (2 ^ kk - 1)).length = 2 ^ kk - 1 := by rw [List.length_take, List.length_drop]; omega
  have hpow : (2 : Int) ^ (6 + 8 * ((l.drop 1).take (2 ^ kk - 1)).length) ≤ 2 ^ 62 := pow2_le (by omega)
  refine ⟨hb2.1, by omega, hk.1, hk.2, ?_⟩
  have hlist : l.take (2 ^ kk) = rd l 0 :: (l.drop 1).take (2 ^ kk - 1) := by
    have e := List.drop_eq_getElem_cons (show 0 < l.length by omega)
    rw [List.drop_zero] at e
    obtain ⟨j, hj⟩ : ∃ j, 2 ^ kk = j + 1 := ⟨2 ^ kk - 1, by omega⟩
    rw [hj]
    conv => lhs; rw [e]
    rw [List.take_succ_cons, Nat.add_sub_cancel]
    congr 1
    unfold rd
    rw [List.getD_eq_getElem?_getD, show (0 : Int).toNat = 0 from rfl, List.getElem?_eq_getElem (by omega)]; rfl
  have hbe : be (foldB ((l.drop 1).take (2 ^ kk - 1)) (rd l 0 % 64)) (2 ^ kk) = (rd l 0 % 64) :: (l.drop 1).take (2 ^ kk - 1) := by
    have hf : foldB ((rd l 0 % 64) :: (l.drop 1).take (2 ^ kk - 1)) 0 = foldB ((l.drop 1).take (2 ^ kk - 1)) (rd l 0 % 64) := by
      simp only [foldB, List.foldl_cons]
      rw [show (0 : Int) * 256 + rd l 0 % 64 = rd l 0 % 64 by omega]
    rw [← hf]
    refine be_fold _ _ (by rw [List.length_cons, hlen]; omega) ?_
    rw [List.all_cons, ht]
    simp [byteB]; omega
  rw [Int.toNat_natCast, put_be, hkind, hbe, hlist, rd_cons, List.set_cons_zero, show rd l 0 % 64 + 64 * (kk : Int) = rd l 0 by omega]
theorem take_err (l : List Int) (n k e : Int) (hb : l.all byteB = true) (h : octet_Take.f l = some (n, k, e)) (he : e ≠ 0) : n = 0 ∧ k = 0 := by
  unfold octet_Take.f at h
  rw [if_pos hb] at h
  split at h
  · simp only [Option.some.injEq, Prod.mk.injEq] at h; omega
  · split at h
    · simp only [Option.some.injEq, Prod.mk.injEq] at h; omega
    · split at h
      · simp only [Option.some.injEq, Prod.mk.injEq] at h; omega
      · simp only [Option.some.injEq, Prod.mk.injEq] at h; omega
theorem mark_lt (l : List Int) (n : Nat) (hn : n < 18446744073709551616) : markB l n < 18446744073709551616 := foldM_lt mixB _ mixB_lt l n hn
theorem inv_mod (M p q u : Nat) (h : p * q % M = 1) (hu : u < M) : u * p % M * q % M = u := by
  rw [Nat.mul_mod, Nat.mod_mod, ← Nat.mul_mod, Nat.mul_assoc, Nat.mul_mod, h, Nat.mul_one, Nat.mod_mod, Nat.mod_eq_of_lt hu]
theorem inv_inj (M p q u v : Nat) (h : p * q % M = 1) (hu : u < M) (hv : v < M) (e : u * p % M = v * p % M) : u = v := by
  rw [← inv_mod M p q u h hu, ← inv_mod M p q v h hv, e]
theorem prime_inv : 1099511628211 * 14886173955864302971 % 18446744073709551616 = 1 := by decide +kernel
theorem mixB_inj (n c d : Nat) (hn : n < 18446744073709551616) (hc : c < 256) (hd : d < 256) (h : mixB n c = mixB n d) : c = d := by
  have hx : (n ^^^ c) < 2 ^ 64 := Nat.xor_lt_two_pow (by omega) (by omega)
  have hy : (n ^^^ d) < 2 ^ 64 := Nat.xor_lt_two_pow (by omega) (by omega)
  have e := inv_inj 18446744073709551616 1099511628211 14886173955864302971 (n ^^^ c) (n ^^^ d) prime_inv (by omega) (by omega) h
  have e2 : n ^^^ (n ^^^ c) = n ^^^ (n ^^^ d) := by rw [e]
  rw [← Nat.xor_assoc, ← Nat.xor_assoc, Nat.xor_self, Nat.zero_xor, Nat.zero_xor] at e2
  exact e2
end Go.Proofs.Ytblfcmjcdclijaa.Pure
