/- Tokens of texts, as lists: plain facts, with no program in sight. -/
import Derived.Lib.IndexMore
import Derived.Test.YtblfcmjcdclijaaRIa
import Derived.Test.YtblfcmjcdclijaaR4
set_option linter.unusedVariables false
set_option linter.unusedSimpArgs false
namespace Go.RR.Toks
open Go
set_option linter.unusedSimpArgs false
set_option linter.unusedVariables false
structure Tok where
  f0 : Int
  f1 : List UInt8
  f2 : Int
  f3 : Int
def letB (c : Int) : Bool := decide (97 ≤ c) && decide (c ≤ 122)
def digB (c : Int) : Bool := decide (48 ≤ c) && decide (c ≤ 57)
def partB (c : Int) : Bool := letB c || digB c || c == 95
/-- How many bytes are such, at a text's begin. -/
def runLen (p : Int → Bool) : List UInt8 → Nat
  | [] => 0
  | c :: l => if p (c.toNat : Int) then runLen p l + 1 else 0
theorem runLen_le (p : Int → Bool) (l : List UInt8) : runLen p l ≤ l.length := by
  induction l with
  | nil => exact Nat.le_refl _
  | cons c l ih => simp only [runLen]; split <;> simp <;> omega
theorem runLen_at (p : Int → Bool) (l : List UInt8) (k : Nat) (h1 : ∀ j (hj : j < k) (hl : j < l.length), p ((l[j]'hl).toNat : Int) = true) (h2 : k ≤ l.length) (h3 : ∀ hl : k < l.length, p ((l[k]'hl).toNat : Int) = false) : runLen p l = k := by
  induction l generalizing k with
  | nil => simp at h2; rw [h2]; rfl
  | cons c l ih =>
    simp only [runLen]
    cases k with
    | zero =>
      have := h3 (by simp)
      simp at this
      rw [if_neg (by simp [this])]
    | succ k =>
      have h0 := h1 0 (by omega) (by simp)
      simp at h0
      rw [if_pos h0, ih k (fun j hj hl => h1 (j + 1) (by omega) (by simp; omega)) (by simpa using h2) (fun hl => h3 (by simp; omega))]
def valF : List UInt8 → Int → Int
  | [], n => n
  | c :: l, n => if 10 * n + ((c.toNat : Int) - 48) > 1099511627776 then 10 * n + ((c.toNat : Int) - 48) else valF l (10 * n + ((c.toNat : Int) - 48))
/-- Do two bytes make one mark? -/
def pairB (a b : Int) : Bool := (a == 46 && b == 46) || ((a == 33 || a == 60 || a == 62) && b == 61)
/-- Is a byte a mark? -/
def markB (c : Int) : Bool := c == 44 || c == 59 || c == 58 || c == 91 || c == 93 || c == 61 || c == 60 || c == 62 || c == 43 || c == 45 || c == 42
def pairsL : List UInt8 := [32, 46, 46, 32, 33, 61, 32, 60, 61, 32, 62, 61, 32]
def marksL : List UInt8 := [44, 59, 58, 91, 93, 61, 60, 62, 43, 45, 42]
theorem beq_u8 (a b : UInt8) : (a == b) = ((a.toNat : Int) == (b.toNat : Int)) := by
  rw [Bool.eq_iff_iff]
  simp [← UInt8.toNat_inj]
  omega
theorem contains_cons (b : UInt8) (l sub : List UInt8) : Lib.contains (b :: l) sub = (sub.isPrefixOf (b :: l) || Lib.contains l sub) := by
  unfold Lib.contains
  have h := Lib.index_ge l sub
  rw [Lib.index]
  by_cases h1 : sub.isPrefixOf (b :: l) = true
  · rw [if_pos h1, h1]; simp
  · rw [if_neg h1]
    replace h1 : sub.isPrefixOf (b :: l) = false := Bool.eq_false_iff.2 h1
    rw [h1, Bool.false_or]
    by_cases h2 : Lib.index l sub = -1
    · rw [if_pos (by simp [h2]), h2]
    · rw [if_neg (by simp [h2]), decide_eq_true (by omega), decide_eq_true (by omega)]
theorem contains_nil (c : UInt8) (sub : List UInt8) : Lib.contains [] (c :: sub) = false := by simp [Lib.contains, Lib.index]
theorem index_cons (b : UInt8) (l : List UInt8) (c : UInt8) : decide (Lib.indexByte (b :: l) c ≥ 0) = (b == c || decide (Lib.indexByte l c ≥ 0)) := by
  have h := Lib.indexByte_ge l c
  rw [Lib.indexByte]
  by_cases h1 : (b == c) = true
  · rw [if_pos h1, h1]; simp
  · rw [if_neg h1]
    replace h1 : (b == c) = false := by simpa using h1
    rw [h1, Bool.false_or]
    by_cases h2 : Lib.indexByte l c = -1
    · rw [if_pos (by simp [h2]), h2]
    · rw [if_neg (by simp [h2]), decide_eq_true (by omega), decide_eq_true (by omega)]
theorem index_nil (c : UInt8) : decide (Lib.indexByte [] c ≥ 0) = false := by simp [Lib.indexByte]
theorem contains_pairs (a b : UInt8) : Lib.contains pairsL [32, a, b, 32] = pairB a.toNat b.toNat := by
  unfold pairsL pairB
  simp only [contains_cons, contains_nil, List.isPrefixOf, beq_u8]
  simp
  rw [Bool.eq_iff_iff]
  simp
  omega
theorem index_marks (c : UInt8) : decide (Lib.indexByte marksL c ≥ 0) = markB c.toNat := by
  unfold marksL markB
  simp only [index_cons, index_nil, beq_u8]
  rw [Bool.eq_iff_iff]
  simp
  omega
/-! Texts as lists of bytes: the token that begins a list. -/
def pair2 (c : UInt8) : List UInt8 → Bool
  | [] => false
  | b :: _ => pairB (c.toNat : Int) (b.toNat : Int)
def firstL : List UInt8 → Int × List UInt8 × Int
  | [] => (0, [], 0)
  | c :: l =>
    if letB (c.toNat : Int) then (1, (c :: l).take (runLen partB (c :: l)), 0)
    else if digB (c.toNat : Int) then (2, (c :: l).take (runLen digB (c :: l)), valF ((c :: l).take (runLen digB (c :: l))) 0)
    else if pair2 c l then (3, (c :: l).take 2, 0)
    else if markB (c.toNat : Int) then (3, [c], 0)
    else (0, [], 0)
/-- The tokens of a list that begins at place k; or the place that is wrong, and why. -/
def scanT : Nat → List UInt8 → Int → List Tok × Int × Int
  | 0, _, _ => ([], 0, 0)
  | _ + 1, [], _ => ([], 0, 0)
  | f + 1, c :: l, k =>
    if (c.toNat : Int) = 32 ∨ (c.toNat : Int) = 10 then scanT f l (k + 1)
    else if (firstL (c :: l)).1 = 0 then ([], k, 2)
    else if 1099511627776 < (firstL (c :: l)).2.2 then ([], k, 5)
    else match scanT f ((c :: l).drop (firstL (c :: l)).2.1.length) (k + (firstL (c :: l)).2.1.length) with
      | (ts, p, e) => if e = 0 then (⟨(firstL (c :: l)).1, (firstL (c :: l)).2.1, (firstL (c :: l)).2.2, k⟩ :: ts, 0, 0) else ([], p, e)
theorem runLen_append (p : Int → Bool) (l r : List UInt8) (hr : ∀ c, r.head? = some c → p (c.toNat : Int) = false) : runLen p (l ++ r) = runLen p l := by
  induction l with
  | nil =>
    cases r with
    | nil => rfl
    | cons c r => simp only [List.nil_append, runLen]; rw [if_neg (by rw [hr c rfl]; simp)]
  | cons c l ih => simp only [List.cons_append, runLen, ih]
theorem take_runLen_append (p : Int → Bool) (l r : List UInt8) : (l ++ r).take (runLen p l) = l.take (runLen p l) :=
  List.take_append_of_le_length (runLen_le p l)
/-- Behind a line end no token goes on. -/
theorem firstL_append (l r : List UInt8) (h : l ≠ []) : firstL (l ++ 10 :: r) = firstL l := by
  cases l with
  | nil => exact absurd rfl h
  | cons c l =>
    have h1 : runLen partB (c :: l ++ 10 :: r) = runLen partB (c :: l) := runLen_append partB _ _ (fun d hd => by simp at hd; subst hd; decide)
    have h2 : runLen digB (c :: l ++ 10 :: r) = runLen digB (c :: l) := runLen_append digB _ _ (fun d hd => by simp at hd; subst hd; decide)
    have h3 : pair2 c (l ++ 10 :: r) = pair2 c l := by
      cases l with
      | nil => simp [pair2, pairB]
      | cons b l => rfl
    have h4 : pair2 c l = true → (c :: (l ++ 10 :: r)).take 2 = (c :: l).take 2 := by
      cases l with
      | nil => simp [pair2]
      | cons b l => intro _; rfl
    rw [List.cons_append] at h1 h2 ⊢
    simp only [firstL, h1, h2, h3]
    have e1 := take_runLen_append partB (c :: l) (10 :: r)
    have e2 := take_runLen_append digB (c :: l) (10 :: r)
    rw [List.cons_append] at e1 e2
    rw [e1, e2]
    split
    · rfl
    · split
      · rfl
      · split
        · rename_i hp; rw [h4 hp]
        · rfl
theorem firstL_len (c : UInt8) (l : List UInt8) : (firstL (c :: l)).2.1.length ≤ (c :: l).length ∧ ((firstL (c :: l)).1 ≠ 0 → 1 ≤ (firstL (c :: l)).2.1.length) := by
  have hp : ∀ p : Int → Bool, p (c.toNat : Int) = true → 1 ≤ runLen p (c :: l) := by
    intro p h; simp only [runLen]; rw [if_pos h]; omega
  have hpart : letB (c.toNat : Int) = true → partB (c.toNat : Int) = true := by intro h; simp [partB, h]
  have a := runLen_le partB (c :: l)
  have b := runLen_le digB (c :: l)
  simp only [firstL]
  split
  · rename_i h; have := hp partB (hpart h); simp only [List.length_take]; omega
  · split
    · rename_i h; have := hp digB h; simp only [List.length_take]; omega
    · split
      · simp only [List.length_take, List.length_cons]; omega
      · split
        · simp
        · simp
/-- More rounds than bytes are alike. -/
theorem scanT_fuel (f : Nat) : ∀ (g : Nat) (l : List UInt8) (k : Int), l.length < f → l.length < g → scanT f l k = scanT g l k := by
  induction f with
  | zero => intro g l k h; omega
  | succ f ih =>
    intro g l k hf hg
    obtain ⟨g, rfl⟩ : ∃ m, g = m + 1 := ⟨g - 1, by omega⟩
    cases l with
    | nil => rfl
    | cons c l =>
      simp only [List.length_cons] at hf hg
      have hl := firstL_len c l
      simp only [scanT]
      rw [ih g l (k + 1) (by omega) (by omega)]
      by_cases h0 : (firstL (c :: l)).1 = 0
      · rw [if_pos h0, if_pos h0]
      · have h1 := hl.2 h0
        rw [ih g ((c :: l).drop (firstL (c :: l)).2.1.length) _ (by simp only [List.length_drop, List.length_cons]; omega) (by simp only [List.length_drop, List.length_cons]; omega)]
theorem scanT_err (f : Nat) : ∀ (l : List UInt8) (k : Int), (scanT f l k).2.2 ≠ 0 → (scanT f l k).1 = [] ∧ k ≤ (scanT f l k).2.1 ∧ (scanT f l k).2.1 ≤ k + l.length := by
  induction f with
  | zero => intro l k h; exact absurd rfl h
  | succ f ih =>
    intro l k h
    cases l with
    | nil => exact absurd rfl h
    | cons c l =>
      have hl := firstL_len c l
      simp only [scanT] at h ⊢
      by_cases hs : (c.toNat : Int) = 32 ∨ (c.toNat : Int) = 10
      · rw [if_pos hs] at h ⊢
        have := ih l (k + 1) h
        simp only [List.length_cons]
        exact ⟨this.1, by omega, by omega⟩
      rw [if_neg hs] at h ⊢
      by_cases h0 : (firstL (c :: l)).1 = 0
      · rw [if_pos h0] at h ⊢
        exact ⟨rfl, Int.le_refl _, by simp; omega⟩
      rw [if_neg h0] at h ⊢
      by_cases h1 : 1099511627776 < (firstL (c :: l)).2.2
      · rw [if_pos h1] at h ⊢
        exact ⟨rfl, Int.le_refl _, by simp; omega⟩
      rw [if_neg h1] at h ⊢
      have hi := ih ((c :: l).drop (firstL (c :: l)).2.1.length) (k + (firstL (c :: l)).2.1.length)
      generalize scanT f ((c :: l).drop (firstL (c :: l)).2.1.length) (k + (firstL (c :: l)).2.1.length) = r at h hi ⊢
      obtain ⟨ts, p, e⟩ := r
      simp only at h hi ⊢
      by_cases he : e = 0
      · rw [if_pos he] at h; exact absurd rfl h
      · rw [if_neg he] at h ⊢
        have := hi he
        simp only [List.length_drop] at this
        have h5 := hl.1
        exact ⟨rfl, show k ≤ p from by omega, show p ≤ k + ((c :: l).length : Int) from by omega⟩
theorem scanT_ok (f : Nat) : ∀ (l : List UInt8) (k : Int), (scanT f l k).2.2 = 0 → (scanT f l k).2.1 = 0 := by
  induction f with
  | zero => intro l k h; rfl
  | succ f ih =>
    intro l k h
    cases l with
    | nil => rfl
    | cons c l =>
      simp only [scanT] at h ⊢
      by_cases hs : (c.toNat : Int) = 32 ∨ (c.toNat : Int) = 10
      · rw [if_pos hs] at h ⊢; exact ih l (k + 1) h
      rw [if_neg hs] at h ⊢
      by_cases h0 : (firstL (c :: l)).1 = 0
      · rw [if_pos h0] at h; simp at h
      rw [if_neg h0] at h ⊢
      by_cases h1 : 1099511627776 < (firstL (c :: l)).2.2
      · rw [if_pos h1] at h; simp at h
      rw [if_neg h1] at h ⊢
      generalize scanT f ((c :: l).drop (firstL (c :: l)).2.1.length) (k + (firstL (c :: l)).2.1.length) = r at h ⊢
      obtain ⟨ts, p, e⟩ := r
      simp only at h ⊢
      by_cases he : e = 0
      · rw [if_pos he]
      · rw [if_neg he] at h; exact absurd h he
/-- What stands ahead of a line end, and what stands behind it. -/
theorem scanT_append (f : Nat) : ∀ (l r : List UInt8) (k : Int) (g : Nat), l.length + r.length + 1 < f → r.length < g →
    scanT f (l ++ 10 :: r) k = if (scanT f l k).2.2 ≠ 0 then scanT f l k else
      if (scanT g r (k + l.length + 1)).2.2 ≠ 0 then scanT g r (k + l.length + 1) else ((scanT f l k).1 ++ (scanT g r (k + l.length + 1)).1, 0, 0) := by
  induction f with
  | zero => intro l r k g h; omega
  | succ f ih =>
    intro l r k g hf hg
    cases l with
    | nil =>
      have e : scanT (f + 1) ([] ++ 10 :: r) k = scanT f r (k + 1) := by
        simp only [List.nil_append, scanT]
        rw [if_pos (.inr rfl)]
      rw [e]
      simp only [List.length_nil] at hf ⊢
      rw [scanT_fuel f g r (k + 1) (by omega) hg]
      have e2 : scanT (f + 1) [] k = ([], 0, 0) := rfl
      rw [e2, show k + ((0 : Nat) : Int) + 1 = k + 1 by omega]
      rw [if_neg (by simp)]
      by_cases h : (scanT g r (k + 1)).2.2 = 0
      · rw [if_neg (by simp [h])]
        have h2 := scanT_ok g r (k + 1) h
        generalize scanT g r (k + 1) = x at h h2 ⊢
        obtain ⟨a, b, c⟩ := x
        simp only at h h2 ⊢
        subst h; subst h2
        simp
      · rw [if_pos h]
    | cons c l =>
      simp only [List.length_cons] at hf
      have hl := firstL_len c l
      have hfa := firstL_append (c :: l) r (by simp)
      rw [List.cons_append] at hfa ⊢
      simp only [scanT]
      rw [hfa]
      by_cases hs : (c.toNat : Int) = 32 ∨ (c.toNat : Int) = 10
      · rw [if_pos hs, if_pos hs, ih l r (k + 1) g (by omega) hg]
        simp only [List.length_cons]
        rw [show k + 1 + (l.length : Int) + 1 = k + ((l.length + 1 : Nat) : Int) + 1 by omega]
      rw [if_neg hs, if_neg hs]
      by_cases h0 : (firstL (c :: l)).1 = 0
      · rw [if_pos h0, if_pos h0, if_pos (by simp)]
      rw [if_neg h0, if_neg h0]
      by_cases h1 : 1099511627776 < (firstL (c :: l)).2.2
      · rw [if_pos h1, if_pos h1, if_pos (by simp)]
      rw [if_neg h1, if_neg h1]
      have hd : (c :: (l ++ 10 :: r)).drop (firstL (c :: l)).2.1.length = (c :: l).drop (firstL (c :: l)).2.1.length ++ 10 :: r := by
        rw [← List.cons_append, List.drop_append_of_le_length hl.1]
      have hlen : ((c :: l).drop (firstL (c :: l)).2.1.length).length = l.length + 1 - (firstL (c :: l)).2.1.length := by simp
      have h2 := hl.2 h0
      have h3 := hl.1
      simp only [List.length_cons] at h3
      rw [hd, ih _ r _ g (by rw [hlen]; omega) hg]
      rw [hlen, show k + ((firstL (c :: l)).2.1.length : Int) + ((l.length + 1 - (firstL (c :: l)).2.1.length : Nat) : Int) + 1 = k + (((c :: l).length : Nat) : Int) + 1 by simp only [List.length_cons]; omega]
      generalize scanT f ((c :: l).drop (firstL (c :: l)).2.1.length) (k + (firstL (c :: l)).2.1.length) = x
      have hy := scanT_err g r (k + ((c :: l).length : Int) + 1)
      generalize scanT g r (k + ((c :: l).length : Int) + 1) = y at hy ⊢
      obtain ⟨a, b, e⟩ := x
      obtain ⟨a2, b2, e2⟩ := y
      simp only at hy ⊢
      by_cases he : e = 0
      · subst he
        by_cases he2 : e2 = 0
        · subst he2; simp
        · have := (hy he2).1
          simp [he2, this]
      · simp [he]
def shiftT (d : Int) (t : Tok) : Tok := ⟨t.f0, t.f1, t.f2, t.f3 + d⟩
theorem scanT_shift (f : Nat) : ∀ (l : List UInt8) (k d : Int), scanT f l (k + d) = ((scanT f l k).1.map (shiftT d), if (scanT f l k).2.2 = 0 then 0 else (scanT f l k).2.1 + d, (scanT f l k).2.2) := by
  induction f with
  | zero => intro l k d; rfl
  | succ f ih =>
    intro l k d
    cases l with
    | nil => rfl
    | cons c l =>
      simp only [scanT]
      by_cases hs : (c.toNat : Int) = 32 ∨ (c.toNat : Int) = 10
      · rw [if_pos hs, if_pos hs, show k + d + 1 = k + 1 + d by omega, ih]
      rw [if_neg hs, if_neg hs]
      by_cases h0 : (firstL (c :: l)).1 = 0
      · rw [if_pos h0, if_pos h0]; simp
      rw [if_neg h0, if_neg h0]
      by_cases h1 : 1099511627776 < (firstL (c :: l)).2.2
      · rw [if_pos h1, if_pos h1]; simp
      rw [if_neg h1, if_neg h1, show k + d + ((firstL (c :: l)).2.1.length : Int) = k + ((firstL (c :: l)).2.1.length : Int) + d by omega, ih]
      have hok := scanT_ok f ((c :: l).drop (firstL (c :: l)).2.1.length) (k + (firstL (c :: l)).2.1.length)
      generalize scanT f ((c :: l).drop (firstL (c :: l)).2.1.length) (k + (firstL (c :: l)).2.1.length) = x at hok ⊢
      obtain ⟨a, b, e⟩ := x
      simp only at hok ⊢
      by_cases he : e = 0
      · simp [he, shiftT]
      · simp [he]
theorem runLen_take (p : Int → Bool) (l : List UInt8) (m : Nat) (h : runLen p l ≤ m) : runLen p (l.take m) = runLen p l := by
  induction l generalizing m with
  | nil => simp
  | cons c l ih =>
    simp only [runLen] at h
    by_cases hc : p (c.toNat : Int) = true
    · rw [if_pos hc] at h
      obtain ⟨m, rfl⟩ : ∃ j, m = j + 1 := ⟨m - 1, by omega⟩
      rw [List.take_succ_cons]
      simp only [runLen]
      rw [if_pos hc, if_pos hc, ih m (by omega)]
    · cases m with
      | zero => simp only [List.take_zero, runLen]; rw [if_neg hc]
      | succ m => rw [List.take_succ_cons]; simp only [runLen]; rw [if_neg hc, if_neg hc]
/-- A token that ends ahead of a cut is the token of what is cut. -/
theorem firstL_take (c : UInt8) (l : List UInt8) (m : Nat) (h0 : (firstL (c :: l)).1 ≠ 0) (h : (firstL (c :: l)).2.1.length ≤ m) : firstL ((c :: l).take m) = firstL (c :: l) := by
  have hl := (firstL_len c l).2 h0
  obtain ⟨m, rfl⟩ : ∃ j, m = j + 1 := ⟨m - 1, by omega⟩
  have a := runLen_le partB (c :: l)
  have b := runLen_le digB (c :: l)
  have t : ∀ p : Int → Bool, runLen p (c :: l) ≤ m + 1 → runLen p (c :: l.take m) = runLen p (c :: l) ∧ (c :: l.take m).take (runLen p (c :: l)) = (c :: l).take (runLen p (c :: l)) := by
    intro p hp
    have e := runLen_take p (c :: l) (m + 1) hp
    rw [List.take_succ_cons] at e
    refine ⟨e, ?_⟩
    rw [← List.take_succ_cons, List.take_take, Nat.min_eq_left hp]
  rw [List.take_succ_cons]
  simp only [firstL] at h h0 ⊢
  by_cases c1 : letB (c.toNat : Int) = true
  · rw [if_pos c1] at h h0 ⊢
    rw [if_pos c1]
    simp only [List.length_take] at h
    obtain ⟨e1, e2⟩ := t partB (by omega)
    rw [e1, e2]
  rw [if_neg c1] at h h0 ⊢
  rw [if_neg c1]
  by_cases c2 : digB (c.toNat : Int) = true
  · rw [if_pos c2] at h h0 ⊢
    rw [if_pos c2]
    simp only [List.length_take] at h
    obtain ⟨e1, e2⟩ := t digB (by omega)
    rw [e1, e2]
  rw [if_neg c2] at h h0 ⊢
  rw [if_neg c2]
  by_cases c3 : pair2 c l = true
  · rw [if_pos c3] at h h0 ⊢
    cases l with
    | nil => simp [pair2] at c3
    | cons b2 l =>
      simp only [List.length_take, List.length_cons] at h
      obtain ⟨m, rfl⟩ : ∃ j, m = j + 1 := ⟨m - 1, by omega⟩
      rw [List.take_succ_cons]
      have c4 : pair2 c (b2 :: l.take m) = true := c3
      rw [if_pos c4]
      rfl
  rw [if_neg c3] at h h0 ⊢
  have c4 : ¬ pair2 c (l.take m) = true := by
    cases l with
    | nil => simp [pair2]
    | cons b l =>
      cases m with
      | zero => simp [pair2]
      | succ m => exact c3
  rw [if_neg c4]
/-- What stands ahead of a place that is wrong is right. -/
theorem scanT_prefix (f : Nat) : ∀ (l : List UInt8) (k : Int), (scanT f l k).2.2 ≠ 0 → (scanT f (l.take ((scanT f l k).2.1 - k).toNat) k).2.2 = 0 := by
  induction f with
  | zero => intro l k h; rfl
  | succ f ih =>
    intro l k h
    have hE := scanT_err (f + 1) l k h
    cases l with
    | nil => exact absurd rfl h
    | cons c l =>
      have hl := firstL_len c l
      simp only [scanT] at h hE ⊢
      by_cases hs : (c.toNat : Int) = 32 ∨ (c.toNat : Int) = 10
      · rw [if_pos hs] at h hE ⊢
        have hi := ih l (k + 1) h
        have hE2 := scanT_err f l (k + 1) h
        obtain ⟨m, hm⟩ : ∃ m, ((scanT f l (k + 1)).2.1 - k).toNat = m + 1 := ⟨((scanT f l (k + 1)).2.1 - (k + 1)).toNat, by omega⟩
        rw [hm, List.take_succ_cons]
        simp only [scanT]
        rw [if_pos hs]
        rw [show ((scanT f l (k + 1)).2.1 - (k + 1)).toNat = m by omega] at hi
        exact hi
      rw [if_neg hs] at h hE ⊢
      by_cases h0 : (firstL (c :: l)).1 = 0
      · rw [if_pos h0, show (k - k).toNat = 0 by omega]; rfl
      rw [if_neg h0] at h hE ⊢
      by_cases h1 : 1099511627776 < (firstL (c :: l)).2.2
      · rw [if_pos h1, show (k - k).toNat = 0 by omega]; rfl
      rw [if_neg h1] at h hE ⊢
      have hi := ih ((c :: l).drop (firstL (c :: l)).2.1.length) (k + (firstL (c :: l)).2.1.length)
      have hE2 := scanT_err f ((c :: l).drop (firstL (c :: l)).2.1.length) (k + (firstL (c :: l)).2.1.length)
      have h2 := hl.2 h0
      generalize hx : scanT f ((c :: l).drop (firstL (c :: l)).2.1.length) (k + (firstL (c :: l)).2.1.length) = x at h hi hE hE2 ⊢
      obtain ⟨a, p, e⟩ := x
      simp only at h hi hE hE2 ⊢
      by_cases he : e = 0
      · rw [if_pos he] at h; exact absurd rfl h
      rw [if_neg he]
      have hE3 := hE2 he
      have hi2 := hi he
      obtain ⟨n, hn⟩ : ∃ n, n = (firstL (c :: l)).2.1.length := ⟨_, rfl⟩
      have hm : ((([] : List Tok), p, e).2.1 - k).toNat = (p - k).toNat := rfl
      simp only
      have hp : n ≤ (p - k).toNat := by omega
      have hft := firstL_take c l (p - k).toNat h0 (by omega)
      obtain ⟨m, hm2⟩ : ∃ m, (p - k).toNat = m + 1 := ⟨(p - k).toNat - 1, by omega⟩
      rw [hm2, List.take_succ_cons] at hft ⊢
      simp only [scanT]
      rw [if_neg hs, hft, if_neg h0, if_neg h1]
      have hdt : (c :: l.take m).drop (firstL (c :: l)).2.1.length = ((c :: l).drop (firstL (c :: l)).2.1.length).take (p - (k + (firstL (c :: l)).2.1.length)).toNat := by
        rw [← List.take_succ_cons, ← hm2, List.drop_take]
        congr 1
        omega
      rw [hdt]
      generalize scanT f (((c :: l).drop (firstL (c :: l)).2.1.length).take (p - (k + (firstL (c :: l)).2.1.length)).toNat) (k + (firstL (c :: l)).2.1.length) = y at hi2 ⊢
      obtain ⟨a2, p2, e2⟩ := y
      simp only at hi2 ⊢
      rw [if_pos hi2]
theorem scanT_places (f : Nat) : ∀ (l : List UInt8) (k : Int), (scanT f l k).1.length ≤ l.length ∧ ∀ t ∈ (scanT f l k).1, k ≤ t.f3 ∧ t.f3 ≤ k + l.length := by
  induction f with
  | zero => intro l k; exact ⟨Nat.zero_le _, fun t ht => by simp [scanT] at ht⟩
  | succ f ih =>
    intro l k
    cases l with
    | nil => exact ⟨Nat.zero_le _, fun t ht => by simp [scanT] at ht⟩
    | cons c l =>
      have hfl := firstL_len c l
      simp only [scanT]
      by_cases hs : (c.toNat : Int) = 32 ∨ (c.toNat : Int) = 10
      · rw [if_pos hs]
        have := ih l (k + 1)
        simp only [List.length_cons]
        exact ⟨by omega, fun t ht => by have := this.2 t ht; omega⟩
      rw [if_neg hs]
      by_cases h0 : (firstL (c :: l)).1 = 0
      · rw [if_pos h0]; simp
      rw [if_neg h0]
      by_cases h1 : 1099511627776 < (firstL (c :: l)).2.2
      · rw [if_pos h1]; simp
      rw [if_neg h1]
      have hi := ih ((c :: l).drop (firstL (c :: l)).2.1.length) (k + (firstL (c :: l)).2.1.length)
      have h2 := hfl.2 h0
      have h3 := hfl.1
      simp only [List.length_drop, List.length_cons] at hi h3 ⊢
      generalize scanT f ((c :: l).drop (firstL (c :: l)).2.1.length) (k + (firstL (c :: l)).2.1.length) = x at hi ⊢
      obtain ⟨ts, p, e⟩ := x
      simp only at hi ⊢
      by_cases he : e = 0
      · rw [if_pos he]
        simp only [List.length_cons]
        refine ⟨by omega, fun t ht => ?_⟩
        rcases List.mem_cons.1 ht with rfl | ht
        · simp only; omega
        · have := hi.2 t ht; omega
      · rw [if_neg he]; simp
end Go.RR.Toks
namespace Go.RR.A
open Go Go.RR Go.RR.Toks
def T : Nat → Option F
  | 8 => some F8 | 28 => some F28 | 29 => some F29 | 31 => some F31 | 32 => some F32 | 39 => some F39 | 44 => some F44 | 45 => some F45 | 46 => some F46 | 47 => some F47 | 48 => some F48 | _ => none
def S : Nat → List V → Option V
  | 49, [.str s, .str t] => if s.length < 4294967281 then some (.bool (Lib.contains s t)) else none
  | 50, [.str s, .int .u8 c] => some (.int .i64 (Lib.indexByte s c.toNat.toUInt8))
  | _, _ => none
def C : Cx := ⟨T, S⟩
theorem T8 : C.T 8 = some F8 := rfl
theorem T28 : C.T 28 = some F28 := rfl
theorem T29 : C.T 29 = some F29 := rfl
theorem T39 : C.T 39 = some F39 := rfl
theorem T44 : C.T 44 = some F44 := rfl
theorem T45 : C.T 45 = some F45 := rfl
theorem T46 : C.T 46 = some F46 := rfl
theorem T47 : C.T 47 = some F47 := rfl
theorem T48 : C.T 48 = some F48 := rfl
set_option maxRecDepth 100000
theorem letter (n : Nat) (c : Int) (h) : acall C (n + 1) 44 [.int .u8 c] h = some (.ret (.bool (letB c)), h) := by
  refine acall_pure (h' := []) (v := .bool (letB c)) T44 rfl rfl ?_ rfl rfl
  unfold letB
  by_cases h1 : c ≥ 97 <;> simp [runB_fin, F44, i44, bin, binI, wanted, h1, ob]
theorem digit (n : Nat) (c : Int) (h) : acall C (n + 1) 47 [.int .u8 c] h = some (.ret (.bool (digB c)), h) := by
  refine acall_pure (h' := []) (v := .bool (digB c)) T47 rfl rfl ?_ rfl rfl
  unfold digB
  by_cases h1 : c ≥ 48 <;> simp [runB_fin, F47, i47, bin, binI, wanted, h1, ob]
theorem part (n : Nat) (c : Int) (h) : acall C (n + 2) 46 [.int .u8 c] h = some (.ret (.bool (partB c)), h) := by
  refine acall_pure (h' := []) (v := .bool (partB c)) T46 rfl rfl ?_ rfl rfl
  unfold partB
  cases h1 : letB c <;> cases h2 : digB c <;> simp [runB_fin, F46, i46, bin, binI, wanted, letter, digit, h1, h2, ob]
theorem run_loop (p : Int → Bool) (f : Nat) (K : Nat) (hf : ∀ n c h, K ≤ n → acall C n f [.int .u8 c] h = some (.ret (.bool (p c)), h)) (s : List UInt8) (hs : s.length ≤ 1000000) : ∀ (d i m : Nat) (x y : Int), x = i → i + d = s.length → K + d + 1 ≤ m → y = x + (runLen p (s.drop i)) →
    ev C m i45_l0 [(0, .str s), (1, .fn (.func f) [] []), (5, .int .i64 x)] [] = some (.ext 0, [(0, .str s), (1, .fn (.func f) [] []), (5, .int .i64 y), (16, .bool false)], []) := by
  intro d
  induction d with
  | zero =>
    intro i m x y hx hi hm hy
    obtain ⟨m, rfl⟩ : ∃ k, m = k + 1 := ⟨m - 1, by omega⟩
    have e : s.drop i = [] := List.drop_of_length_le (by omega)
    have h1 : ¬ x < s.length := by omega
    rw [e] at hy
    simp only [runLen] at hy
    have hy : y = x := by omega
    subst hy
    rw [r45_l0]
    simp [i45_b0, op1, bin, binI, wanted, h1]
  | succ d ih =>
    intro i m x y hx hi hm hy
    obtain ⟨m, rfl⟩ : ∃ k, m = k + 1 := ⟨m - 1, by omega⟩
    have hlt : i < s.length := by omega
    have h1 : x < s.length := by omega
    have h2 : 0 ≤ x := by omega
    have h3 : x.toNat = i := by omega
    have e : s.drop i = s[i] :: s.drop (i + 1) := List.drop_eq_getElem_cons hlt
    have hfm := fun c h => hf m c h (by omega)
    have hfm' := fun c h => hf (m + 1) c h (by omega)
    rw [e] at hy
    simp only [runLen] at hy
    rw [r45_l0]
    by_cases hp : p s[i].toNat = true
    · rw [if_pos hp] at hy
      have := ih (i + 1) m (x + 1) y (by omega) (by omega) (by omega) (by omega)
      have hw : IntKind.i64.wrap (x + 1) = x + 1 := wrap64 (by omega) (by omega)
      simp [i45_b0, op1, bin, binI, wanted, h1, h2, h3, hlt, hfm, hfm', hp, hw, this]
    · rw [if_neg hp] at hy
      have hy : y = x := by omega
      subst hy
      have hp : p s[i].toNat = false := by simpa using hp
      simp [i45_b0, op1, bin, binI, wanted, h1, h2, h3, hlt, hfm, hfm', hp]
theorem run (p : Int → Bool) (f : Nat) (K : Nat) (hf : ∀ n c h, K ≤ n → acall C n f [.int .u8 c] h = some (.ret (.bool (p c)), h)) (s : List UInt8) (hs : s.length ≤ 1000000) (n : Nat) (hn : K + s.length + 3 ≤ n) (h) :
    acall C n 45 [.str s, .fn (.func f) [] []] h = some (.ret (.str (s.take (runLen p s))), h) := by
  obtain ⟨n, rfl⟩ : ∃ k, n = k + 1 := ⟨n - 1, by omega⟩
  refine acall_pure (h' := []) (v := .str (s.take (runLen p s))) T45 rfl rfl ?_ rfl rfl
  have := run_loop p f K hf s hs s.length 0 (n + 1) 0 (runLen p s) rfl (by omega) (by omega) (by simp)
  have hle := runLen_le p s
  simp [runB_fin, F45, i45, this, op1, oint, bounds, hle]
theorem value_loop (s : List UInt8) (hs : s.length ≤ 1000000) (hd : ∀ c ∈ s, digB (c.toNat : Int) = true) : ∀ (d i m : Nat) (x q : Int), x = i → i + d = s.length → d + 1 ≤ m → 0 ≤ q → q ≤ 1099511627776 →
    ∃ fr, ev C m i48_l0 [(0, .str s), (3, .int .i64 q), (6, .int .i64 s.length), (7, .int .i64 x)] [] = some (.ext 0, fr, []) ∧ get fr 3 = .int .i64 (valF (s.drop i) q) := by
  intro d
  induction d with
  | zero =>
    intro i m x q hx hi hm h0 hq
    obtain ⟨m, rfl⟩ : ∃ k, m = k + 1 := ⟨m - 1, by omega⟩
    have e : s.drop i = [] := List.drop_of_length_le (by omega)
    have h1 : ¬ x < s.length := by omega
    rw [r48_l0, e]
    simp [i48_b0, op1, bin, binI, wanted, h1, valF]
  | succ d ih =>
    intro i m x q hx hi hm h0 hq
    obtain ⟨m, rfl⟩ : ∃ k, m = k + 1 := ⟨m - 1, by omega⟩
    have hlt : i < s.length := by omega
    have h1 : x < s.length := by omega
    have h2 : 0 ≤ x := by omega
    have h3 : x.toNat = i := by omega
    have e : s.drop i = s[i] :: s.drop (i + 1) := List.drop_eq_getElem_cons hlt
    have hdi := hd s[i] (List.getElem_mem hlt)
    simp only [digB, Bool.and_eq_true, decide_eq_true_eq] at hdi
    have w1 : IntKind.i64.wrap (10 * q) = 10 * q := wrap64 (by omega) (by omega)
    have w2 : IntKind.u8.wrap ((s[i].toNat : Int) - 48) = (s[i].toNat : Int) - 48 := wrap8 (by omega) (by omega)
    have w3 : IntKind.i64.wrap ((s[i].toNat : Int) - 48) = (s[i].toNat : Int) - 48 := wrap64 (by omega) (by omega)
    have w4 : IntKind.i64.wrap (10 * q + ((s[i].toNat : Int) - 48)) = 10 * q + ((s[i].toNat : Int) - 48) := wrap64 (by omega) (by omega)
    have w5 : IntKind.i64.wrap (x + 1) = x + 1 := wrap64 (by omega) (by omega)
    rw [r48_l0, e]
    simp only [valF]
    by_cases hb : 10 * q + ((s[i].toNat : Int) - 48) > 1099511627776
    · rw [if_pos hb]
      simp [i48_b0, op1, bin, binI, wanted, h1, h2, h3, hlt, w1, w2, w3, w4, w5, hb]
    · rw [if_neg hb]
      obtain ⟨fr, r1, r2⟩ := ih (i + 1) m (x + 1) (10 * q + ((s[i].toNat : Int) - 48)) (by omega) (by omega) (by omega) (by omega) (by omega)
      refine ⟨fr, ?_, r2⟩
      rw [← r1]
      simp [i48_b0, op1, bin, binI, wanted, h1, h2, h3, hlt, w1, w2, w3, w4, w5, hb]
theorem value (s : List UInt8) (hs : s.length ≤ 1000000) (hd : ∀ c ∈ s, digB (c.toNat : Int) = true) (n : Nat) (hn : s.length + 2 ≤ n) (h) : acall C n 48 [.str s] h = some (.ret (.int .i64 (valF s 0)), h) := by
  obtain ⟨n, rfl⟩ : ∃ k, n = k + 1 := ⟨n - 1, by omega⟩
  refine acall_pure (h' := []) (v := .int .i64 (valF s 0)) T48 rfl rfl ?_ rfl rfl
  obtain ⟨fr, r1, r2⟩ := value_loop s hs hd s.length 0 (n + 1) 0 0 rfl (by omega) (by omega) (by omega) (by omega)
  simp at r2
  simp [runB_fin, F48, i48, r1, r2, op1]
end Go.RR.A
namespace Go.RR.A
open Go Go.RR Go.RR.Toks
set_option maxRecDepth 100000
def tokV (t : Tok) : V := .agg [.int .i64 t.f0, .str t.f1, .int .i64 t.f2, .int .i64 t.f3]
theorem runLen_digits (p : Int → Bool) : ∀ (l : List UInt8), ∀ c ∈ l.take (runLen p l), p (c.toNat : Int) = true
  | [], c, hc => by simp [runLen] at hc
  | b :: l, c, hc => by
    simp only [runLen] at hc
    by_cases h : p (b.toNat : Int) = true
    · rw [if_pos h, List.take_succ_cons] at hc
      rcases List.mem_cons.1 hc with rfl | hc
      · exact h
      · exact runLen_digits p l c hc
    · rw [if_neg h] at hc
      simp at hc
theorem contains2 (c b : UInt8) : Lib.contains [32, 46, 46, 32, 33, 61, 32, 60, 61, 32, 62, 61, 32] [32, c, b, 32] = pairB c.toNat b.toNat := contains_pairs c b
theorem marks2 (c : UInt8) : (Lib.indexByte [44, 59, 58, 91, 93, 61, 60, 62, 43, 45, 42] c ≥ 0) = (markB c.toNat = true) := by
  have := index_marks c
  unfold marksL at this
  rw [← this]
  simp
theorem call49 (n : Nat) (s t : List UInt8) (hs : s.length < 4294967281) (h) : acall C n 49 [.str s, .str t] h = some (.ret (.bool (Lib.contains s t)), h) := by
  have e : C.T 49 = none := rfl
  have e2 : frzL h [.str s, .str t] = some [.str s, .str t] := rfl
  simp only [acall, callW, e, e2]
  show (match S 49 [.str s, .str t] with | some v => _ | none => _) = _
  simp only [S]
  rw [if_pos hs]
  rfl
theorem call50 (n : Nat) (s : List UInt8) (c : Int) (h) : acall C n 50 [.str s, .int .u8 c] h = some (.ret (.int .i64 (Lib.indexByte s c.toNat.toUInt8)), h) := rfl
set_option maxHeartbeats 2000000 in
theorem first (n : Nat) (c : UInt8) (l : List UInt8) (hs : (c :: l).length ≤ 1000000) (hn : (c :: l).length + 6 ≤ n) (h) :
    acall C n 39 [.str (c :: l)] h = some (.ret (.agg [.int .i64 (firstL (c :: l)).1, .str (firstL (c :: l)).2.1, .int .i64 (firstL (c :: l)).2.2, .int .i64 0]), h) := by
  obtain ⟨n, rfl⟩ : ∃ k, n = k + 1 + 1 := ⟨n - 2, by omega⟩
  have r1 := fun h => run partB 46 2 (fun n c h hn => by
    obtain ⟨k, rfl⟩ : ∃ k, n = k + 2 := ⟨n - 2, by omega⟩
    exact part k c h) (c :: l) hs (n + 1) (by omega) h
  have r2 := fun h => run digB 47 1 (fun n c h hn => by
    obtain ⟨k, rfl⟩ : ∃ k, n = k + 1 := ⟨n - 1, by omega⟩
    exact digit k c h) (c :: l) hs (n + 1) (by omega) h
  have hle := runLen_le digB (c :: l)
  have r3 := fun h => value ((c :: l).take (runLen digB (c :: l))) (by simp only [List.length_take]; omega) (runLen_digits digB (c :: l)) (n + 1) (by simp only [List.length_take]; omega) h
  refine acall_pure (h' := [.row 4 [.agg [.int .i64 (firstL (c :: l)).1, .str (firstL (c :: l)).2.1, .int .i64 (firstL (c :: l)).2.2, .int .i64 0]]]) (v := .agg [.int .i64 (firstL (c :: l)).1, .str (firstL (c :: l)).2.1, .int .i64 (firstL (c :: l)).2.2, .int .i64 0]) T39 rfl rfl ?_ rfl rfl
  simp only [firstL]
  by_cases h1 : letB c.toNat = true
  · simp [runB_fin, F39, i39, op1, letter, h1, r1, V.size, V.cells, rowOf, over, fillV, V.isUnd, V.isTup, res1, RR.part]
  have h1 : letB c.toNat = false := by simpa using h1
  by_cases h2 : digB c.toNat = true
  · simp [runB_fin, F39, i39, op1, letter, digit, h1, h2, r2, r3, V.size, V.cells, rowOf, over, fillV, V.isUnd, V.isTup, res1, RR.part]
  have h2 : digB c.toNat = false := by simpa using h2
  cases l with
  | nil =>
    have h3 := marks2 c
    by_cases h4 : markB c.toNat = true
    · simp [runB_fin, F39, i39, op1, letter, digit, h1, h2, V.size, V.cells, rowOf, over, fillV, V.isUnd, V.isTup, res1, RR.part, bin, binI, binS, wanted, pair2, call50, h3, h4, oint, bounds, pickV]
    · simp [runB_fin, F39, i39, op1, letter, digit, h1, h2, V.size, V.cells, rowOf, over, fillV, V.isUnd, V.isTup, res1, RR.part, bin, binI, binS, wanted, pair2, call50, h3, h4, oint, bounds, pickV]
  | cons b l =>
    have h3 := marks2 c
    have h5 := contains2 c b
    have h6 : (1 : Int) < (l.length : Int) + 1 + 1 := by omega
    have h6b : (1 : Int) ≤ (l.length : Int) + 1 + 1 := by omega
    have h6' : (2 : Int) ≤ (l.length : Int) + 1 + 1 := by omega
    by_cases h7 : pairB c.toNat b.toNat = true
    · simp [runB_fin, F39, i39, op1, letter, digit, h1, h2, V.size, V.cells, rowOf, over, fillV, V.isUnd, V.isTup, res1, RR.part, bin, binI, binS, wanted, pair2, call50, call49, h3, h5, h6, h6b, h6', h7, oint, bounds, pickV]
    have h7 : pairB c.toNat b.toNat = false := by simpa using h7
    by_cases h4 : markB c.toNat = true
    · simp [runB_fin, F39, i39, op1, letter, digit, h1, h2, V.size, V.cells, rowOf, over, fillV, V.isUnd, V.isTup, res1, RR.part, bin, binI, binS, wanted, pair2, call50, call49, h3, h4, h5, h6, h6b, h6', h7, oint, bounds, pickV]
    · simp [runB_fin, F39, i39, op1, letter, digit, h1, h2, V.size, V.cells, rowOf, over, fillV, V.isUnd, V.isTup, res1, RR.part, bin, binI, binS, wanted, pair2, call50, call49, h3, h4, h5, h6, h6b, h6', h7, oint, bounds, pickV]
end Go.RR.A
namespace Go.RR.A
open Go Go.RR Go.RR.Toks
set_option maxRecDepth 100000
def ScanE (xs : List V) (r : List Tok × Int × Int) (o : Option Rs) : Prop :=
  ∃ x fr h', o = some (x, fr, h') ∧ (r.2.2 = 0 → x = .ext 0 ∧ Acc h' (get fr 5) 4 (xs ++ r.1.map tokV)) ∧ (r.2.2 ≠ 0 → x = .ret ∧ get fr 2 = .nsl 4 ∧ get fr 3 = .int .i64 r.2.1 ∧ get fr 4 = .int .i64 r.2.2)
set_option maxHeartbeats 4000000 in
theorem scan_loop (s : List UInt8) (hs : s.length ≤ 4000) : ∀ (f i m : Nat) (x : Int) (v : V) (xs : List V) (h : List Ob), x = i → i ≤ s.length → (s.drop i).length < f → f + s.length + 10 ≤ m → xs.length ≤ i → Acc h v 4 xs →
    ScanE xs (scanT f (s.drop i) i) (ev C m i29_l0 [(0, .str s), (5, v), (6, .int .i64 x)] h) := by
  intro f
  induction f with
  | zero => intro i m x v xs h hx hi hf; omega
  | succ f ih =>
    intro i m x v xs h hx hi hf hm hxs ha
    obtain ⟨m, rfl⟩ : ∃ k, m = k + 1 := ⟨m - 1, by omega⟩
    rw [r29_l0]
    cases e : s.drop i with
    | nil =>
      have hl : ¬ x < s.length := by
        have := congrArg List.length e
        simp at this
        omega
      refine ⟨.ext 0, _, _, by simp [i29_b0, op1, bin, binI, hl]; exact ⟨rfl, rfl⟩, fun _ => ⟨rfl, by simpa [scanT] using ha⟩, fun he => absurd rfl he⟩
    | cons c l =>
      have hlt : i < s.length := by
        rcases Nat.lt_or_ge i s.length with h1 | h1
        · exact h1
        · rw [List.drop_of_length_le h1] at e; cases e
      have e2 := List.drop_eq_getElem_cons hlt
      rw [e] at e2
      obtain ⟨ec, el⟩ : c = s[i] ∧ l = s.drop (i + 1) := List.cons.inj e2
      have hget : s[i]? = some c := by simp [hlt, ec]
      have h1 : x < s.length := by omega
      have h2 : 0 ≤ x := by omega
      have h3 : x.toNat = i := by omega
      have hll : (s.drop i).length = l.length + 1 := by rw [e]; rfl
      have hll2 : s.length = i + (l.length + 1) := by simp at hll; omega
      have w1 : IntKind.i64.wrap (x + 1) = x + 1 := wrap64 (by omega) (by omega)
      simp only [scanT]
      by_cases hsp : (c.toNat : Int) = 32 ∨ (c.toNat : Int) = 10
      · rw [if_pos hsp]
        have := ih (i + 1) m (x + 1) v xs h (by omega) (by omega) (by rw [← el]; rw [hll] at hf; omega) (by omega) (by omega) ha
        rw [← el, show ((i + 1 : Nat) : Int) = (i : Int) + 1 by omega] at this
        rcases hsp with h32 | h10
        · have h32 : c = 32 := by
            apply UInt8.toNat_inj.1
            show c.toNat = 32
            omega
          simpa [i29_b0, op1, bin, binI, wanted, pickV, h1, h2, h3, hget, h32, w1] using this
        · have h10 : c = 10 := by
            apply UInt8.toNat_inj.1
            show c.toNat = 10
            omega
          simpa [i29_b0, op1, bin, binI, wanted, pickV, h1, h2, h3, hget, h10, w1] using this
      rw [if_neg hsp]
      have n32 : ¬ (c.toNat : Int) = 32 := fun h => hsp (.inl h)
      have n10 : ¬ (c.toNat : Int) = 10 := fun h => hsp (.inr h)
      have b32 : ((c.toNat : Int) == 32) = false := by simpa using n32
      have b10 : ((c.toNat : Int) == 10) = false := by simpa using n10
      have hfst := fun h => first m c l (by simp; omega) (by simp; omega) h
      have hfl := firstL_len c l
      have hb : bounds s.length (some x) none = some (i, s.length) := by
        simp only [bounds, Option.getD_some, Option.getD_none]
        rw [if_pos ⟨by omega, by omega, by omega⟩, h3]; simp
      generalize firstL (c :: l) = t at hfst hfl
      obtain ⟨k, tx, tv⟩ := t
      simp only at hfst hfl ⊢
      by_cases hk : k = 0
      · rw [if_pos hk]
        subst hk
        refine ⟨.ret, [(2, .nsl 4), (3, .int .i64 x), (4, .int .i64 2)], h ++ [.row 4 [.agg [.int .i64 0, .str tx, .int .i64 tv, .int .i64 0]]], ?_, fun he => by simp at he, fun _ => ⟨rfl, rfl, by simp [get, hx], rfl⟩⟩
        · simp [i29_b0, op1, bin, binI, wanted, pickV, h1, h2, h3, hget, b32, b10, w1, oint, hb, e, hfst, rowOf, V.size, V.cells, over, RR.part]
      rw [if_neg hk]
      have bk : (k == 0) = false := by simpa using hk
      by_cases hv : 1099511627776 < tv
      · rw [if_pos hv]
        refine ⟨.ret, [(2, .nsl 4), (3, .int .i64 x), (4, .int .i64 5)], h ++ [.row 4 [.agg [.int .i64 k, .str tx, .int .i64 tv, .int .i64 0]]], ?_, fun he => by simp at he, fun _ => ⟨rfl, rfl, by simp [get, hx], rfl⟩⟩
        · simp [i29_b0, op1, bin, binI, wanted, pickV, h1, h2, h3, hget, b32, b10, bk, hk, hv, w1, oint, hb, e, hfst, rowOf, V.size, V.cells, over, RR.part]
      rw [if_neg hv]
      have hn := hfl.2 hk
      have hle := hfl.1
      simp only [List.length_cons] at hle
      have w2 : IntKind.i64.wrap (x + (tx.length : Int)) = x + (tx.length : Int) := wrap64 (by omega) (by omega)
      have ed : (c :: l).drop tx.length = s.drop (i + tx.length) := by rw [← e, List.drop_drop]
      -- what is appended
      have hsrc : src (h ++ [.row 4 [.agg [.int .i64 k, .str tx, .int .i64 tv, .int .i64 x]], .row 4 [.agg [.int .i64 k, .str tx, .int .i64 tv, .int .i64 x]]]) (.own (h.length + 1) 0 1 1) = some (4, [tokV ⟨k, tx, tv, x⟩]) := by
        simp [src, elems, rowOf, tokV]
      obtain ⟨v', w', r1, r2, r3⟩ := (ha.more (l := [.row 4 [.agg [.int .i64 k, .str tx, .int .i64 tv, .int .i64 x]], .row 4 [.agg [.int .i64 k, .str tx, .int .i64 tv, .int .i64 x]]])).app (b := 40) hsrc (by simp; omega) (by simp; omega)
      have r4 := r3 h.length (by simp) fun a b c e => absurd (ha.lt e) (Nat.lt_irrefl _)
      simp only [get_end, List.getElem?_cons_zero] at r4
      have := ih (i + tx.length) m (x + tx.length) v' (xs ++ [tokV ⟨k, tx, tv, x⟩]) _ (by omega) (by omega) (by rw [← ed]; simp only [List.length_drop, List.length_cons]; rw [hll] at hf; omega) (by omega) (by simp; omega) r2
      rw [← ed, show ((i + tx.length : Nat) : Int) = (i : Int) + tx.length by omega] at this
      generalize scanT f ((c :: l).drop tx.length) ((i : Int) + tx.length) = y at this ⊢
      obtain ⟨ts, p, er⟩ := y
      simp only [List.length_append, List.length_cons, List.length_nil, Nat.zero_add, Nat.reduceAdd] at r1
      obtain ⟨ox, ofr, oh, o1, o2, o3⟩ := this
      refine ⟨ox, ofr, oh, ?_, ?_, ?_⟩
      · rw [← o1]
        simp [i29_b0, op1, bin, binI, wanted, pickV, h1, h2, h3, hget, b32, b10, bk, hk, hv, w1, w2, oint, hb, e, hfst, rowOf, V.size, V.cells, over, RR.part, fillE, V.isUnd, V.isTup, r1, r4]
      · by_cases he : er = 0
        · rw [if_pos he]
          intro _
          have := o2 he
          simpa [tokV, hx] using this
        · rw [if_neg he]
          intro h; exact absurd h he
      · by_cases he : er = 0
        · rw [if_pos he]
          intro h; exact absurd rfl h
        · rw [if_neg he]
          exact o3
end Go.RR.A
namespace Go.RR.A
open Go Go.RR Go.RR.Toks
set_option maxRecDepth 100000
/-- what Scan tells -/
def scanV (r : List Tok × Int × Int) : V := .tup [.sl 4 (r.1.map tokV), .int .i64 r.2.1, .int .i64 r.2.2]
theorem frz_tok (ts : List Tok) (h : List Ob) (n : Nat) : ∀ x ∈ ts.map tokV, frz h (n + 2) x = some x := by
  intro x hx
  obtain ⟨t, _, rfl⟩ := List.mem_map.1 hx
  rfl
set_option maxHeartbeats 1000000 in
theorem scan (s : List UInt8) (hs : s.length ≤ 4000) (n : Nat) (hn : 2 * s.length + 20 ≤ n) (h) : acall C n 29 [.str s] h = some (.ret (scanV (scanT (s.length + 1) s 0)), h) := by
  obtain ⟨n, rfl⟩ : ∃ k, n = k + 1 + 1 := ⟨n - 2, by omega⟩
  have := scan_loop s hs (s.length + 1) 0 (n + 1 + 1) 0 (.nsl 4) [] [] rfl (by omega) (by simp) (by omega) (by simp) (.inl ⟨rfl, rfl⟩)
  simp only [List.drop_zero, Int.natCast_zero] at this
  have hok := scanT_ok (s.length + 1) s 0
  have her := scanT_err (s.length + 1) s 0
  have hgt : ¬ (s.length : Int) > 4000 := by omega
  generalize scanT (s.length + 1) s 0 = r at this hok her ⊢
  obtain ⟨ts, p, e⟩ := r
  obtain ⟨x, fr, h', e1, e2, e3⟩ := this
  simp only at e2 e3 hok her
  by_cases he : e = 0
  · obtain ⟨rfl, ha⟩ := e2 he
    have hp := hok he
    subst he; subst hp
    refine acall_pure (h' := h') (v := .tup [get fr 5, .int .i64 0, .int .i64 0]) T29 rfl rfl ?_ ?_ rfl
    · simp [runB_fin, F29, i29, op1, bin, binI, hgt, e1]
    · have hf := frz_acc 10 ha (frz_tok ts h' 8)
      show (mapO (frz h' 11) [get fr 5, .int .i64 0, .int .i64 0]).map V.tup = _
      simp [hf, frz, scanV]
  · obtain ⟨rfl, g1, g2, g3⟩ := e3 he
    obtain ⟨rfl, _⟩ := her he
    refine acall_pure (h' := h') (v := .tup [.nsl 4, .int .i64 p, .int .i64 e]) T29 rfl rfl ?_ ?_ rfl
    · simp [runB_fin, F29, i29, op1, bin, binI, hgt, e1, g1, g2, g3]
    · rfl
theorem awake (n : Nat) (h) : acall C (n + 60) 28 [] h = some (.ret (.bool true), h) := by kernel_rfl
end Go.RR.A
namespace Go.RR.A
open Go Go.RR Go.RR.Toks
set_option maxRecDepth 100000
theorem awake' (n : Nat) (hn : 60 ≤ n) (h) : acall C n 28 [] h = some (.ret (.bool true), h) := by
  obtain ⟨k, rfl⟩ : ∃ k, n = k + 60 := ⟨n - 60, by omega⟩
  exact awake k h
theorem tok_cells (t : Tok) : (tokV t).cells = [.int .i64 t.f0, .str t.f1, .int .i64 t.f2, .int .i64 t.f3] := rfl
set_option maxHeartbeats 4000000 in
theorem cut_loop (a : List UInt8) (L M : List Tok) (ha : a.length ≤ 1000) (hL : L.length ≤ 1000) (hM : M.length ≤ 1000) (hb : ∀ t ∈ M, 0 ≤ t.f3 ∧ t.f3 ≤ 1000) : ∀ (d i m : Nat) (x : Int) (h : List Ob), x = i → i + d = L.length + M.length → d + 1 ≤ m →
    ∃ fr h', ev C m i8_l0 [(0, .str a), (5, .sl 4 (L.map tokV)), (8, .sl 4 (M.map tokV)), (117, .sl 4 ((L ++ M.map (shiftT ((a.length : Int) + 1))).map tokV)), (118, .int .i64 ((L.length : Int) + M.length)), (119, .int .i64 x)] h = some (.ext 0, fr, h') := by
  intro d
  induction d with
  | zero =>
    intro i m x h hx hi hm
    obtain ⟨m, rfl⟩ : ∃ k, m = k + 1 := ⟨m - 1, by omega⟩
    have h1 : ¬ x < (L.length : Int) + M.length := by omega
    rw [r8_l0]
    simp [i8_b0, op1, bin, binI, h1]
  | succ d ih =>
    intro i m x h hx hi hm
    obtain ⟨m, rfl⟩ : ∃ k, m = k + 1 := ⟨m - 1, by omega⟩
    have h1 : x < (L.length : Int) + M.length := by omega
    have h2 : 0 ≤ x := by omega
    have h3 : x.toNat = i := by omega
    have w1 : IntKind.i64.wrap (x + 1) = x + 1 := wrap64 (by omega) (by omega)
    have w2 : IntKind.i64.wrap ((a.length : Int) + 1) = (a.length : Int) + 1 := wrap64 (by omega) (by omega)
    have w3 : IntKind.i64.wrap (x - (L.length : Int)) = x - (L.length : Int) := wrap64 (by omega) (by omega)
    rw [r8_l0]
    have hrec := fun h => ih (i + 1) m (x + 1) h (by omega) (by omega) (by omega)
    by_cases hl : i < L.length
    · have hl' : x < (L.length : Int) := by omega
      have e1 : at? ((L ++ M.map (shiftT ((a.length : Int) + 1))).map tokV) x = some (tokV L[i]) := by
        unfold at?
        rw [if_pos h2, h3, List.getElem?_map, List.getElem?_append_left hl]
        simp [hl]
      have e2 : at? (L.map tokV) x = some (tokV L[i]) := by
        unfold at?
        rw [if_pos h2, h3, List.getElem?_map]
        simp [hl]
      generalize L[i] = t at e1 e2
      obtain ⟨fr, h', r⟩ := hrec (h ++ [.row 4 [tokV t], .row 4 [tokV t]])
      refine ⟨fr, h', ?_⟩
      rw [← r]
      simp only [List.map_append, List.map_map] at e1 ⊢
      simp [i8_b0, op1, bin, binI, h1, h2, h3, hl', w1, w2, w3, e1, e2, tok_cells, RR.part, V.size, rowOf, over, qAgg, tokV, V.cells, fillV, V.isUnd, V.isTup]
    · have hl' : ¬ x < (L.length : Int) := by omega
      have hm : i - L.length < M.length := by omega
      have hb' := hb M[i - L.length] (List.getElem_mem hm)
      have e1 : at? ((L ++ M.map (shiftT ((a.length : Int) + 1))).map tokV) x = some (tokV (shiftT ((a.length : Int) + 1) M[i - L.length])) := by
        unfold at?
        rw [if_pos h2, h3, List.getElem?_map, List.getElem?_append_right (by omega)]
        simp [hm]
      have e2 : at? (M.map tokV) (x - (L.length : Int)) = some (tokV M[i - L.length]) := by
        unfold at?
        rw [if_pos (by omega), List.getElem?_map, show (x - (L.length : Int)).toNat = i - L.length by omega]
        simp [hm]
      generalize M[i - L.length] = t at e1 e2 hb'
      have w4 : IntKind.i64.wrap (t.f3 + ((a.length : Int) + 1)) = t.f3 + ((a.length : Int) + 1) := wrap64 (by omega) (by omega)
      obtain ⟨fr, h', r⟩ := hrec (h ++ [.row 4 [tokV (shiftT ((a.length : Int) + 1) t)], .row 4 [tokV (shiftT ((a.length : Int) + 1) t)]])
      refine ⟨fr, h', ?_⟩
      rw [← r]
      simp only [List.map_append, List.map_map] at e1 ⊢
      simp [i8_b0, op1, bin, binI, h1, h2, h3, hl', w1, w2, w3, w4, e1, e2, tok_cells, RR.part, V.size, rowOf, over, qAgg, tokV, V.cells, shiftT, fillV, V.isUnd, V.isTup]
theorem cut_facts (a b : List UInt8) : ∃ l p e m q f n r g, scanT (a.length + 1) a 0 = (l, p, e) ∧ scanT (b.length + 1) b 0 = (m, q, f) ∧ scanT ((a ++ 10 :: b).length + 1) (a ++ 10 :: b) 0 = (n, r, g) ∧
    ((e ≠ 0 ∧ g = e ∧ r = p ∧ n = [] ∧ 0 ≤ p ∧ p ≤ a.length ∧ ∃ x y, scanT ((a.take p.toNat).length + 1) (a.take p.toNat) 0 = (x, y, 0)) ∨
     (e = 0 ∧ f ≠ 0 ∧ g = f ∧ r = (a.length : Int) + 1 + q ∧ n = [] ∧ 0 ≤ q ∧ q ≤ b.length) ∨
     (e = 0 ∧ f = 0 ∧ g = 0 ∧ n = l ++ m.map (shiftT ((a.length : Int) + 1)) ∧ l.length ≤ a.length ∧ m.length ≤ b.length ∧ ∀ t ∈ m, 0 ≤ t.f3 ∧ t.f3 ≤ b.length)) := by
  have hlen : (a ++ 10 :: b).length = a.length + b.length + 1 := by simp; omega
  have happ := scanT_append (a.length + b.length + 1 + 1) a b 0 (b.length + 1) (by omega) (by omega)
  rw [scanT_fuel (a.length + b.length + 1 + 1) (a.length + 1) a 0 (by omega) (by omega), show (0 : Int) + (a.length : Int) + 1 = 0 + ((a.length : Int) + 1) by omega, scanT_shift] at happ
  rw [hlen]
  have ea := scanT_err (a.length + 1) a 0
  have pa := scanT_prefix (a.length + 1) a 0
  have ca := scanT_places (a.length + 1) a 0
  have eb := scanT_err (b.length + 1) b 0
  have cb := scanT_places (b.length + 1) b 0
  generalize scanT (a.length + 1) a 0 = A at ea pa ca happ
  generalize scanT (b.length + 1) b 0 = B at eb cb happ
  obtain ⟨l, p, e⟩ := A
  obtain ⟨m, q, f⟩ := B
  simp only at ea pa ca eb cb happ
  by_cases he : e = 0
  · subst he
    by_cases hf : f = 0
    · subst hf
      simp at happ
      exact ⟨l, p, 0, m, q, 0, _, _, _, rfl, rfl, happ, .inr (.inr ⟨rfl, rfl, rfl, rfl, by omega, by omega, fun t ht => by have := cb.2 t ht; omega⟩)⟩
    · have := eb hf
      simp [hf] at happ
      exact ⟨l, p, 0, m, q, f, _, _, _, rfl, rfl, happ, .inr (.inl ⟨rfl, hf, rfl, by omega, by rw [this.1]; rfl, by omega, by omega⟩)⟩
  · have h4 := ea he
    have h5 := pa he
    simp [he] at happ
    refine ⟨l, p, e, m, q, f, _, _, _, rfl, rfl, happ, .inl ⟨he, rfl, rfl, h4.1, h4.2.1, by omega, ?_⟩⟩
    rw [show (p - 0).toNat = p.toNat by omega] at h5
    rw [scanT_fuel ((a.take p.toNat).length + 1) (a.length + 1) _ 0 (by omega) (by rw [List.length_take]; omega)]
    generalize scanT (a.length + 1) (a.take p.toNat) 0 = x at h5 ⊢
    obtain ⟨x, y, z⟩ := x
    simp only at h5
    subst h5
    exact ⟨x, y, rfl⟩
end Go.RR.A
namespace Go.RR.A
open Go Go.RR Go.RR.Toks
set_option maxRecDepth 100000
attribute [-simp] in_same in_un in_conv in_s2b in_b2s in_new in_box in_bld in_bsl in_ld in_st in_nck in_fad in_fld in_iad in_ixs in_sls in_sll in_mks in_mkf in_ext in_len in_slen in_mxn in_mki
set_option maxHeartbeats 40000000 in
theorem scanCut (a b : List UInt8) (h) : acall C 10000 8 [.str a, .str b] h = some (.ret (.bool true), h) := by
  obtain ⟨N, hN⟩ : ∃ N, 10000 = N + 1 := ⟨9999, rfl⟩
  rw [hN]
  have haw := fun h => awake' N (by omega) h
  suffices hs : ∃ h', runB (ev C (N + 1)) F8 [.str a, .str b] [] = some (.ret (.bool true), h') by
    obtain ⟨h', hs⟩ := hs
    exact acall_pure (h' := h') T8 rfl rfl hs rfl rfl
  simp only [runB_fin, F8]
  unfold i8
  by_cases ha : (a.length : Int) > 1000
  · simp [haw, ha]
  by_cases hb : (b.length : Int) > 1000
  · simp [haw, ha, hb]
  obtain ⟨l, p, e, m, q, f, n, r, g, s1, s2, s3, hcase⟩ := cut_facts a b
  have c1 := fun h => scan a (by omega) N (by omega) h
  have c2 := fun h => scan b (by omega) N (by omega) h
  have c3 := fun h => scan (a ++ 10 :: b) (by simp; omega) N (by simp; omega) h
  rw [s1] at c1
  rw [s2] at c2
  rw [s3] at c3
  have hsum : a.length + 1 ≤ 4611686018427387904 := by omega
  have hsum2 : a.length + (b.length + 1) ≤ 4611686018427387904 := by omega
  have hsum3 : a.length + 1 + b.length ≤ 4611686018427387904 := by omega
  rcases hcase with ⟨he, rfl, rfl, rfl, p0, p1, x, y, s4⟩ | ⟨rfl, hf, rfl, rfl, rfl, q0, q1⟩ | ⟨rfl, rfl, rfl, rfl, l1, m1, hbd⟩
  · have c4 := fun h => scan (a.take r.toNat) (by rw [List.length_take]; omega) N (by rw [List.length_take]; omega) h
    rw [s4] at c4
    have hp0 : ¬ r < 0 := by omega
    have hp1 : ¬ r > a.length := by omega
    have he' : (g == 0) = false := by simpa using he
    have he2 : (g != 0) = true := by simpa using he
    simp (maxSteps := 1000000) [haw, ha, hb, c1, c2, c3, c4, scanV, he, he', he2, hp0, hp1, p0, p1, hsum, hsum2, hsum3]
  · have hf' : (g == 0) = false := by simpa using hf
    have hf2 : (g != 0) = true := by simpa using hf
    have w1 : IntKind.i64.wrap ((a.length : Int) + 1) = (a.length : Int) + 1 := wrap64 (by omega) (by omega)
    have w2 : IntKind.i64.wrap ((a.length : Int) + 1 + q) = (a.length : Int) + 1 + q := wrap64 (by omega) (by omega)
    simp (maxSteps := 1000000) [haw, ha, hb, c1, c2, c3, scanV, hf, hf', hf2, w1, w2, hsum, hsum2, hsum3]
  · obtain ⟨fr, h', hl⟩ := cut_loop a l m (by omega) (by omega) (by omega) (fun t ht => by have := hbd t ht; omega) (l.length + m.length) 0 (N + 1) 0 [] rfl (by omega) (by omega)
    have w1 : IntKind.i64.wrap ((l.length : Int) + m.length) = (l.length : Int) + m.length := wrap64 (by omega) (by omega)
    simp only [List.map_append, List.map_map] at hl c3
    refine ⟨h', ?_⟩
    simp (maxSteps := 1000000) [haw, ha, hb, c1, c2, c3, scanV, w1, hl, hsum, hsum2, hsum3]
end Go.RR.A
