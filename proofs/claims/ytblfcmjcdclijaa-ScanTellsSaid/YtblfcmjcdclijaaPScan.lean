/- The tokens of texts as functions of lists of bytes: what stands ahead of a line end and behind it; what stands ahead of a place that is wrong. -/
import Derived.Test.YtblfcmjcdclijaaHScanAll
namespace Go.Proofs.Ytblfcmjcdclijaa.PureS
open Go.RowKit Go.Proofs.Ytblfcmjcdclijaa.QS Go.Proofs.YtblfcmjcdclijaaW.PrintWords Go.Proofs.YtblfcmjcdclijaaW.PrintLast
set_option linter.unusedSimpArgs false
set_option linter.unusedVariables false
/-! Texts as lists of bytes: the token that begins a list. -/
def pair2 (c : UInt8) : List UInt8 → Bool
  | [] => false
  | b :: _ => pairB (c.toNat : Int) (b.toNat : Int)
def firstL : List UInt8 → Int × List UInt8 × Int
  | [] => (0, [], 0)
  | c :: l =>
    if letB (c.toNat : Int) then (1, (c :: l).take (runLen partB (c :: l)), 0)
    else if digB (c.toNat : Int) then (2, (c :: l).take (runLen digB (c :: l)), valF ((c :: l).take (runLen digB (c :: l))) 0)
    else if pair2 c l then (3, (c :: l).take 2, 0)
    else if markB (c.toNat : Int) then (3, [c], 0)
    else (0, [], 0)
/-- The tokens of a list that begins at place k; or the place that is wrong, and why. -/
def scanT : Nat → List UInt8 → Int → List S57 × Int × Int
  | 0, _, _ => ([], 0, 0)
  | _ + 1, [], _ => ([], 0, 0)
  | f + 1, c :: l, k =>
    if (c.toNat : Int) = 32 ∨ (c.toNat : Int) = 10 then scanT f l (k + 1)
    else if (firstL (c :: l)).1 = 0 then ([], k, 2)
    else if 1099511627776 < (firstL (c :: l)).2.2 then ([], k, 5)
    else match scanT f ((c :: l).drop (firstL (c :: l)).2.1.length) (k + (firstL (c :: l)).2.1.length) with
      | (ts, p, e) => if e = 0 then (⟨(firstL (c :: l)).1, ⟨(firstL (c :: l)).2.1.toArray⟩, (firstL (c :: l)).2.2, k⟩ :: ts, 0, 0) else ([], p, e)
theorem runLen_append (p : Int → Bool) (l r : List UInt8) (hr : ∀ c, r.head? = some c → p (c.toNat : Int) = false) : runLen p (l ++ r) = runLen p l := by
  induction l with
  | nil =>
    cases r with
    | nil => rfl
    | cons c r => simp only [List.nil_append, runLen]; rw [if_neg (by rw [hr c rfl]; simp)]
  | cons c l ih => simp only [List.cons_append, runLen, ih]
theorem take_runLen_append (p : Int → Bool) (l r : List UInt8) : (l ++ r).take (runLen p l) = l.take (runLen p l) :=
  List.take_append_of_le_length (runLen_le p l)
/-- Behind a line end no token goes on. -/
theorem firstL_append (l r : List UInt8) (h : l ≠ []) : firstL (l ++ 10 :: r) = firstL l := by
  cases l with
  | nil => exact absurd rfl h
  | cons c l =>
    have h1 : runLen partB (c :: l ++ 10 :: r) = runLen partB (c :: l) := runLen_append partB _ _ (fun d hd => by simp at hd; subst hd; decide)
    have h2 : runLen digB (c :: l ++ 10 :: r) = runLen digB (c :: l) := runLen_append digB _ _ (fun d hd => by simp at hd; subst hd; decide)
    have h3 : pair2 c (l ++ 10 :: r) = pair2 c l := by
      cases l with
      | nil => simp [pair2, pairB]
      | cons b l => rfl
    have h4 : pair2 c l = true → (c :: (l ++ 10 :: r)).take 2 = (c :: l).take 2 := by
      cases l with
      | nil => simp [pair2]
      | cons b l => intro _; rfl
    rw [List.cons_append] at h1 h2 ⊢
    simp only [firstL, h1, h2, h3]
    have e1 := take_runLen_append partB (c :: l) (10 :: r)
    have e2 := take_runLen_append digB (c :: l) (10 :: r)
    rw [List.cons_append] at e1 e2
    rw [e1, e2]
    split
    · rfl
    · split
      · rfl
      · split
        · rename_i hp; rw [h4 hp]
        · rfl
theorem firstL_len (c : UInt8) (l : List UInt8) : (firstL (c :: l)).2.1.length ≤ (c :: l).length ∧ ((firstL (c :: l)).1 ≠ 0 → 1 ≤ (firstL (c :: l)).2.1.length) := by
  have hp : ∀ p : Int → Bool, p (c.toNat : Int) = true → 1 ≤ runLen p (c :: l) := by
    intro p h; simp only [runLen]; rw [if_pos h]; omega
  have hpart : letB (c.toNat : Int) = true → partB (c.toNat : Int) = true := by intro h; simp [partB, h]
  have a := runLen_le partB (c :: l)
  have b := runLen_le digB (c :: l)
  simp only [firstL]
  split
  · rename_i h; have := hp partB (hpart h); simp only [List.length_take]; omega
  · split
    · rename_i h; have := hp digB h; simp only [List.length_take]; omega
    · split
      · simp only [List.length_take, List.length_cons]; omega
      · split
        · simp
        · simp
/-- More rounds than bytes are alike. -/
theorem scanT_fuel (f : Nat) : ∀ (g : Nat) (l : List UInt8) (k : Int), l.length < f → l.length < g → scanT f l k = scanT g l k := by
  induction f with
  | zero => intro g l k h; omega
  | succ f ih =>
    intro g l k hf hg
    obtain ⟨g, rfl⟩ : ∃ m, g = m + 1 := ⟨g - 1, by omega⟩
    cases l with
    | nil => rfl
    | cons c l =>
      simp only [List.length_cons] at hf hg
      have hl := firstL_len c l
      simp only [scanT]
      rw [ih g l (k + 1) (by omega) (by omega)]
      by_cases h0 : (firstL (c :: l)).1 = 0
      · rw [if_pos h0, if_pos h0]
      · have h1 := hl.2 h0
        rw [ih g ((c :: l).drop (firstL (c :: l)).2.1.length) _ (by simp only [List.length_drop, List.length_cons]; omega) (by simp only [List.length_drop, List.length_cons]; omega)]
theorem scanT_err (f : Nat) : ∀ (l : List UInt8) (k : Int), (scanT f l k).2.2 ≠ 0 → (scanT f l k).1 = [] ∧ k ≤ (scanT f l k).2.1 ∧ (scanT f l k).2.1 ≤ k + l.length := by
  induction f with
  | zero => intro l k h; exact absurd rfl h
  | succ f ih =>
    intro l k h
    cases l with
    | nil => exact absurd rfl h
    | cons c l =>
      have hl := firstL_len c l
      simp only [scanT] at h ⊢
      by_cases hs : (c.toNat : Int) = 32 ∨ (c.toNat : Int) = 10
      · rw [if_pos hs] at h ⊢
        have := ih l (k + 1) h
        simp only [List.length_cons]
        exact ⟨this.1, by omega, by omega⟩
      rw [if_neg hs] at h ⊢
      by_cases h0 : (firstL (c :: l)).1 = 0
      · rw [if_pos h0] at h ⊢
        exact ⟨rfl, Int.le_refl _, by simp; omega⟩
      rw [if_neg h0] at h ⊢
      by_cases h1 : 1099511627776 < (firstL (c :: l)).2.2
      · rw [if_pos h1] at h ⊢
        exact ⟨rfl, Int.le_refl _, by simp; omega⟩
      rw [if_neg h1] at h ⊢
      have hi := ih ((c :: l).drop (firstL (c :: l)).2.1.length) (k + (firstL (c :: l)).2.1.length)
      generalize scanT f ((c :: l).drop (firstL (c :: l)).2.1.length) (k + (firstL (c :: l)).2.1.length) = r at h hi ⊢
      obtain ⟨ts, p, e⟩ := r
      simp only at h hi ⊢
      by_cases he : e = 0
      · rw [if_pos he] at h; exact absurd rfl h
      · rw [if_neg he] at h ⊢
        have := hi he
        simp only [List.length_drop] at this
        have h5 := hl.1
        exact ⟨rfl, show k ≤ p from by omega, show p ≤ k + ((c :: l).length : Int) from by omega⟩
theorem scanT_ok (f : Nat) : ∀ (l : List UInt8) (k : Int), (scanT f l k).2.2 = 0 → (scanT f l k).2.1 = 0 := by
  induction f with
  | zero => intro l k h; rfl
  | succ f ih =>
    intro l k h
    cases l with
    | nil => rfl
    | cons c l =>
      simp only [scanT] at h ⊢
      by_cases hs : (c.toNat : Int) = 32 ∨ (c.toNat : Int) = 10
      · rw [if_pos hs] at h ⊢; exact ih l (k + 1) h
      rw [if_neg hs] at h ⊢
      by_cases h0 : (firstL (c :: l)).1 = 0
      · rw [if_pos h0] at h; simp at h
      rw [if_neg h0] at h ⊢
      by_cases h1 : 1099511627776 < (firstL (c :: l)).2.2
      · rw [if_pos h1] at h; simp at h
      rw [if_neg h1] at h ⊢
      generalize scanT f ((c :: l).drop (firstL (c :: l)).2.1.length) (k + (firstL (c :: l)).2.1.length) = r at h ⊢
      obtain ⟨ts, p, e⟩ := r
      simp only at h ⊢
      by_cases he : e = 0
      · rw [if_pos he]
      · rw [if_neg he] at h; exact absurd h he
/-- What stands ahead of a line end, and what stands behind it. -/
theorem scanT_append (f : Nat) : ∀ (l r : List UInt8) (k : Int) (g : Nat), l.length + r.length + 1 < f → r.length < g →
    scanT f (l ++ 10 :: r) k = if (scanT f l k).2.2 ≠ 0 then scanT f l k else
      if (scanT g r (k + l.length + 1)).2.2 ≠ 0 then scanT g r (k + l.length + 1) else ((scanT f l k).1 ++ (scanT g r (k + l.length + 1)).1, 0, 0) := by
  induction f with
  | zero => intro l r k g h; omega
  | succ f ih =>
    intro l r k g hf hg
    cases l with
    | nil =>
      have e : scanT (f + 1) ([] ++ 10 :: r) k = scanT f r (k + 1) := by
        simp only [List.nil_append, scanT]
        rw [if_pos (.inr rfl)]
      rw [e]
      simp only [List.length_nil] at hf ⊢
      rw [scanT_fuel f g r (k + 1) (by omega) hg]
      have e2 : scanT (f + 1) [] k = ([], 0, 0) := rfl
      rw [e2, show k + ((0 : Nat) : Int) + 1 = k + 1 by omega]
      rw [if_neg (by simp)]
      by_cases h : (scanT g r (k + 1)).2.2 = 0
      · rw [if_neg (by simp [h])]
        have h2 := scanT_ok g r (k + 1) h
        generalize scanT g r (k + 1) = x at h h2 ⊢
        obtain ⟨a, b, c⟩ := x
        simp only at h h2 ⊢
        subst h; subst h2
        simp
      · rw [if_pos h]
    | cons c l =>
      simp only [List.length_cons] at hf
      have hl := firstL_len c l
      have hfa := firstL_append (c :: l) r (by simp)
      rw [List.cons_append] at hfa ⊢
      simp only [scanT]
      rw [hfa]
      by_cases hs : (c.toNat : Int) = 32 ∨ (c.toNat : Int) = 10
      · rw [if_pos hs, if_pos hs, ih l r (k + 1) g (by omega) hg]
        simp only [List.length_cons]
        rw [show k + 1 + (l.length : Int) + 1 = k + ((l.length + 1 : Nat) : Int) + 1 by omega]
      rw [if_neg hs, if_neg hs]
      by_cases h0 : (firstL (c :: l)).1 = 0
      · rw [if_pos h0, if_pos h0, if_pos (by simp)]
      rw [if_neg h0, if_neg h0]
      by_cases h1 : 1099511627776 < (firstL (c :: l)).2.2
      · rw [if_pos h1, if_pos h1, if_pos (by simp)]
      rw [if_neg h1, if_neg h1]
      have hd : (c :: (l ++ 10 :: r)).drop (firstL (c :: l)).2.1.length = (c :: l).drop (firstL (c :: l)).2.1.length ++ 10 :: r := by
        rw [← List.cons_append, List.drop_append_of_le_length hl.1]
      have hlen : ((c :: l).drop (firstL (c :: l)).2.1.length).length = l.length + 1 - (firstL (c :: l)).2.1.length := by simp
      have h2 := hl.2 h0
      have h3 := hl.1
      simp only [List.length_cons] at h3
      rw [hd, ih _ r _ g (by rw [hlen]; omega) hg]
      rw [hlen, show k + ((firstL (c :: l)).2.1.length : Int) + ((l.length + 1 - (firstL (c :: l)).2.1.length : Nat) : Int) + 1 = k + (((c :: l).length : Nat) : Int) + 1 by simp only [List.length_cons]; omega]
      generalize scanT f ((c :: l).drop (firstL (c :: l)).2.1.length) (k + (firstL (c :: l)).2.1.length) = x
      have hy := scanT_err g r (k + ((c :: l).length : Int) + 1)
      generalize scanT g r (k + ((c :: l).length : Int) + 1) = y at hy ⊢
      obtain ⟨a, b, e⟩ := x
      obtain ⟨a2, b2, e2⟩ := y
      simp only at hy ⊢
      by_cases he : e = 0
      · subst he
        by_cases he2 : e2 = 0
        · subst he2; simp
        · have := (hy he2).1
          simp [he2, this]
      · simp [he]
def shiftT (d : Int) (t : S57) : S57 := ⟨t.f0, t.f1, t.f2, t.f3 + d⟩
theorem scanT_shift (f : Nat) : ∀ (l : List UInt8) (k d : Int), scanT f l (k + d) = ((scanT f l k).1.map (shiftT d), if (scanT f l k).2.2 = 0 then 0 else (scanT f l k).2.1 + d, (scanT f l k).2.2) := by
  induction f with
  | zero => intro l k d; rfl
  | succ f ih =>
    intro l k d
    cases l with
    | nil => rfl
    | cons c l =>
      simp only [scanT]
      by_cases hs : (c.toNat : Int) = 32 ∨ (c.toNat : Int) = 10
      · rw [if_pos hs, if_pos hs, show k + d + 1 = k + 1 + d by omega, ih]
      rw [if_neg hs, if_neg hs]
      by_cases h0 : (firstL (c :: l)).1 = 0
      · rw [if_pos h0, if_pos h0]; simp
      rw [if_neg h0, if_neg h0]
      by_cases h1 : 1099511627776 < (firstL (c :: l)).2.2
      · rw [if_pos h1, if_pos h1]; simp
      rw [if_neg h1, if_neg h1, show k + d + ((firstL (c :: l)).2.1.length : Int) = k + ((firstL (c :: l)).2.1.length : Int) + d by omega, ih]
      have hok := scanT_ok f ((c :: l).drop (firstL (c :: l)).2.1.length) (k + (firstL (c :: l)).2.1.length)
      generalize scanT f ((c :: l).drop (firstL (c :: l)).2.1.length) (k + (firstL (c :: l)).2.1.length) = x at hok ⊢
      obtain ⟨a, b, e⟩ := x
      simp only at hok ⊢
      by_cases he : e = 0
      · simp [he, shiftT]
      · simp [he]
theorem runLen_take (p : Int → Bool) (l : List UInt8) (m : Nat) (h : runLen p l ≤ m) : runLen p (l.take m) = runLen p l := by
  induction l generalizing m with
  | nil => simp
  | cons c l ih =>
    simp only [runLen] at h
    by_cases hc : p (c.toNat : Int) = true
    · rw [if_pos hc] at h
      obtain ⟨m, rfl⟩ : ∃ j, m = j + 1 := ⟨m - 1, by omega⟩
      rw [List.take_succ_cons]
      simp only [runLen]
      rw [if_pos hc, if_pos hc, ih m (by omega)]
    · cases m with
      | zero => simp only [List.take_zero, runLen]; rw [if_neg hc]
      | succ m => rw [List.take_succ_cons]; simp only [runLen]; rw [if_neg hc, if_neg hc]
/-- A token that ends ahead of a cut is the token of what is cut. -/
theorem firstL_take (c : UInt8) (l : List UInt8) (m : Nat) (h0 : (firstL (c :: l)).1 ≠ 0) (h : (firstL (c :: l)).2.1.length ≤ m) : firstL ((c :: l).take m) = firstL (c :: l) := by
  have hl := (firstL_len c l).2 h0
  obtain ⟨m, rfl⟩ : ∃ j, m = j + 1 := ⟨m - 1, by omega⟩
  have a := runLen_le partB (c :: l)
  have b := runLen_le digB (c :: l)
  have t : ∀ p : Int → Bool, runLen p (c :: l) ≤ m + 1 → runLen p (c :: l.take m) = runLen p (c :: l) ∧ (c :: l.take m).take (runLen p (c :: l)) = (c :: l).take (runLen p (c :: l)) := by
    intro p hp
    have e := runLen_take p (c :: l) (m + 1) hp
    rw [List.take_succ_cons] at e
    refine ⟨e, ?_⟩
    rw [← List.take_succ_cons, List.take_take, Nat.min_eq_left hp]
  rw [List.take_succ_cons]
  simp only [firstL] at h h0 ⊢
  by_cases c1 : letB (c.toNat : Int) = true
  · rw [if_pos c1] at h h0 ⊢
    rw [if_pos c1]
    simp only [List.length_take] at h
    obtain ⟨e1, e2⟩ := t partB (by omega)
    rw [e1, e2]
  rw [if_neg c1] at h h0 ⊢
  rw [if_neg c1]
  by_cases c2 : digB (c.toNat : Int) = true
  · rw [if_pos c2] at h h0 ⊢
    rw [if_pos c2]
    simp only [List.length_take] at h
    obtain ⟨e1, e2⟩ := t digB (by omega)
    rw [e1, e2]
  rw [if_neg c2] at h h0 ⊢
  rw [if_neg c2]
  by_cases c3 : pair2 c l = true
  · rw [if_pos c3] at h h0 ⊢
    cases l with
    | nil => simp [pair2] at c3
    | cons b2 l =>
      simp only [List.length_take, List.length_cons] at h
      obtain ⟨m, rfl⟩ : ∃ j, m = j + 1 := ⟨m - 1, by omega⟩
      rw [List.take_succ_cons]
      have c4 : pair2 c (b2 :: l.take m) = true := c3
      rw [if_pos c4]
      rfl
  rw [if_neg c3] at h h0 ⊢
  have c4 : ¬ pair2 c (l.take m) = true := by
    cases l with
    | nil => simp [pair2]
    | cons b l =>
      cases m with
      | zero => simp [pair2]
      | succ m => exact c3
  rw [if_neg c4]
/-- What stands ahead of a place that is wrong is right. -/
theorem scanT_prefix (f : Nat) : ∀ (l : List UInt8) (k : Int), (scanT f l k).2.2 ≠ 0 → (scanT f (l.take ((scanT f l k).2.1 - k).toNat) k).2.2 = 0 := by
  induction f with
  | zero => intro l k h; rfl
  | succ f ih =>
    intro l k h
    have hE := scanT_err (f + 1) l k h
    cases l with
    | nil => exact absurd rfl h
    | cons c l =>
      have hl := firstL_len c l
      simp only [scanT] at h hE ⊢
      by_cases hs : (c.toNat : Int) = 32 ∨ (c.toNat : Int) = 10
      · rw [if_pos hs] at h hE ⊢
        have hi := ih l (k + 1) h
        have hE2 := scanT_err f l (k + 1) h
        obtain ⟨m, hm⟩ : ∃ m, ((scanT f l (k + 1)).2.1 - k).toNat = m + 1 := ⟨((scanT f l (k + 1)).2.1 - (k + 1)).toNat, by omega⟩
        rw [hm, List.take_succ_cons]
        simp only [scanT]
        rw [if_pos hs]
        rw [show ((scanT f l (k + 1)).2.1 - (k + 1)).toNat = m by omega] at hi
        exact hi
      rw [if_neg hs] at h hE ⊢
      by_cases h0 : (firstL (c :: l)).1 = 0
      · rw [if_pos h0, show (k - k).toNat = 0 by omega]; rfl
      rw [if_neg h0] at h hE ⊢
      by_cases h1 : 1099511627776 < (firstL (c :: l)).2.2
      · rw [if_pos h1, show (k - k).toNat = 0 by omega]; rfl
      rw [if_neg h1] at h hE ⊢
      have hi := ih ((c :: l).drop (firstL (c :: l)).2.1.length) (k + (firstL (c :: l)).2.1.length)
      have hE2 := scanT_err f ((c :: l).drop (firstL (c :: l)).2.1.length) (k + (firstL (c :: l)).2.1.length)
      have h2 := hl.2 h0
      generalize hx : scanT f ((c :: l).drop (firstL (c :: l)).2.1.length) (k + (firstL (c :: l)).2.1.length) = x at h hi hE hE2 ⊢
      obtain ⟨a, p, e⟩ := x
      simp only at h hi hE hE2 ⊢
      by_cases he : e = 0
      · rw [if_pos he] at h; exact absurd rfl h
      rw [if_neg he]
      have hE3 := hE2 he
      have hi2 := hi he
      obtain ⟨n, hn⟩ : ∃ n, n = (firstL (c :: l)).2.1.length := ⟨_, rfl⟩
      have hm : ((([] : List S57), p, e).2.1 - k).toNat = (p - k).toNat := rfl
      simp only
      have hp : n ≤ (p - k).toNat := by omega
      have hft := firstL_take c l (p - k).toNat h0 (by omega)
      obtain ⟨m, hm2⟩ : ∃ m, (p - k).toNat = m + 1 := ⟨(p - k).toNat - 1, by omega⟩
      rw [hm2, List.take_succ_cons] at hft ⊢
      simp only [scanT]
      rw [if_neg hs, hft, if_neg h0, if_neg h1]
      have hdt : (c :: l.take m).drop (firstL (c :: l)).2.1.length = ((c :: l).drop (firstL (c :: l)).2.1.length).take (p - (k + (firstL (c :: l)).2.1.length)).toNat := by
        rw [← List.take_succ_cons, ← hm2, List.drop_take]
        congr 1
        omega
      rw [hdt]
      generalize scanT f (((c :: l).drop (firstL (c :: l)).2.1.length).take (p - (k + (firstL (c :: l)).2.1.length)).toNat) (k + (firstL (c :: l)).2.1.length) = y at hi2 ⊢
      obtain ⟨a2, p2, e2⟩ := y
      simp only at hi2 ⊢
      rw [if_pos hi2]
/-! From texts to lists. -/
theorem ext_take (s : ByteArray) (n : Nat) : s.extract 0 n = ⟨(s.data.toList.take n).toArray⟩ := by
  apply ByteArray.ext
  apply Array.ext'
  simp
theorem ext_drop (s : ByteArray) (k : Nat) : (s.extract k s.size).data.toList = s.data.toList.drop k := by
  simp
  rw [List.take_of_length_le (by simp)]
theorem firstF_list (s : ByteArray) (c : UInt8) (l : List UInt8) (h : s.data.toList = c :: l) : firstF s = ((firstL (c :: l)).1, ⟨(firstL (c :: l)).2.1.toArray⟩, (firstL (c :: l)).2.2, 0) := by
  have hsz : s.size = l.length + 1 := by have : s.data.toList.length = s.size := by simp
                                         rw [← this, h]; rfl
  have e0 : bt s 0 = (c.toNat : Int) := by
    have e : bt s 0 = ((s[0]'(by omega)).toNat : Int) := bt0 s 0 (by omega)
    have e2 : s[0]'(by omega) = s.data.toList[0]'(by simp; omega) := rfl
    rw [e, e2]
    simp only [h, List.getElem_cons_zero]
  have e1 : (1 < s.size ∧ pairB (c.toNat : Int) (bt s 1) = true) ↔ pair2 c l = true := by
    cases l with
    | nil => simp at hsz; simp [pair2, hsz]
    | cons b l =>
      simp only [List.length_cons] at hsz
      have e : bt s 1 = ((s[1]'(by omega)).toNat : Int) := bt0 s 1 (by omega)
      have e2 : s[1]'(by omega) = s.data.toList[1]'(by simp; omega) := rfl
      have e3 : s.data.toList[1]'(by simp; omega) = b := by simp only [h]; rfl
      rw [e, e2, e3]
      simp only [pair2]
      exact ⟨fun h => h.2, fun h => ⟨by omega, h⟩⟩
  simp only [firstF, firstL, e0, ext_take, h]
  by_cases c1 : letB (c.toNat : Int) = true
  · rw [if_pos c1, if_pos c1]
  rw [if_neg c1, if_neg c1]
  by_cases c2 : digB (c.toNat : Int) = true
  · rw [if_pos c2, if_pos c2]
  rw [if_neg c2, if_neg c2]
  by_cases c3 : pair2 c l = true
  · rw [if_pos c3, if_pos (e1.2 c3)]
  rw [if_neg c3, if_neg (fun h => c3 (e1.1 h))]
  by_cases c4 : markB (c.toNat : Int) = true
  · rw [if_pos c4, if_pos c4]; rfl
  · rw [if_neg c4, if_neg c4]
theorem scanF_list (s : ByteArray) (f : Nat) : ∀ (k : Nat) (acc : List S57), s.size < f + k → k ≤ s.size →
    scanF s f k acc = match scanT f (s.data.toList.drop k) k with
      | (ts, p, e) => if e = 0 then (acc ++ ts, 0, 0) else ([], p, e) := by
  induction f with
  | zero => intro k acc h hk; omega
  | succ f ih =>
    intro k acc h hk
    have hsz : s.data.toList.length = s.size := by simp
    by_cases hlt : k < s.size
    case neg =>
      rw [scanF_end s _ k acc hlt, List.drop_of_length_le (by omega)]
      simp [scanT]
    have hd := List.drop_eq_getElem_cons (show k < s.data.toList.length by omega)
    obtain ⟨c, hc⟩ : ∃ c, s.data.toList[k]'(by omega) = c := ⟨_, rfl⟩
    obtain ⟨l, hl⟩ : ∃ l, s.data.toList.drop (k + 1) = l := ⟨_, rfl⟩
    rw [hc, hl] at hd
    have hbt : bt s k = (c.toNat : Int) := by rw [bt0 s k hlt, ← hc]; rfl
    have hF := firstF_list (s.extract k s.size) c l (by rw [ext_drop, hd])
    simp only [scanF, scanT, hd, hF, hbt]
    rw [if_pos hlt]
    by_cases hs : (c.toNat : Int) = 32 ∨ (c.toNat : Int) = 10
    · rw [if_pos hs, if_pos hs, ih (k + 1) acc (by omega) (by omega), hl]
      rw [show ((k + 1 : Nat) : Int) = (k : Int) + 1 by omega]
    rw [if_neg hs, if_neg hs]
    by_cases h0 : (firstL (c :: l)).1 = 0
    · rw [if_pos h0, if_pos h0]; simp
    rw [if_neg h0, if_neg h0]
    by_cases h1 : 1099511627776 < (firstL (c :: l)).2.2
    · rw [if_pos h1, if_pos h1]; simp
    rw [if_neg h1, if_neg h1]
    have hfl := firstL_len c l
    have h2 := hfl.2 h0
    have h3 := hfl.1
    have h4 : (c :: l).length = s.size - k := by rw [← hd, List.length_drop, hsz]
    have hsize : (ByteArray.mk (firstL (c :: l)).2.1.toArray).size = (firstL (c :: l)).2.1.length := rfl
    have hdd : (c :: l).drop (firstL (c :: l)).2.1.length = s.data.toList.drop (k + (firstL (c :: l)).2.1.length) := by
      conv => lhs; arg 2; rw [← hd]
      rw [List.drop_drop]
    rw [hsize, ih (k + (firstL (c :: l)).2.1.length) _ (by omega) (by omega), hdd]
    rw [show ((k + (firstL (c :: l)).2.1.length : Nat) : Int) = (k : Int) + ((firstL (c :: l)).2.1.length : Int) by omega]
    generalize scanT f (s.data.toList.drop (k + (firstL (c :: l)).2.1.length)) ((k : Int) + ((firstL (c :: l)).2.1.length : Int)) = x
    obtain ⟨ts, p, e⟩ := x
    simp only
    by_cases he : e = 0
    · simp [he]
    · simp [he]
theorem scan_list (s : ByteArray) (hs : s.size ≤ 4000) : scan_Scan.f s = some (scanT (s.size + 1) s.data.toList 0) := by
  unfold scan_Scan.f
  rw [if_pos (by omega), if_neg (by omega), scanF_list s (s.size + 1) 0 [] (by omega) (by omega), List.drop_zero]
  have h1 := scanT_ok (s.size + 1) s.data.toList 0
  have h2 := scanT_err (s.size + 1) s.data.toList 0
  rw [show ((0 : Nat) : Int) = 0 from rfl]
  generalize scanT (s.size + 1) s.data.toList 0 = x at h1 h2 ⊢
  obtain ⟨ts, p, e⟩ := x
  simp only at h1 h2 ⊢
  by_cases he : e = 0
  · rw [if_pos he, List.nil_append, h1 he, he]
  · rw [if_neg he, (h2 he).1]
end Go.Proofs.Ytblfcmjcdclijaa.PureS
