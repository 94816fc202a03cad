/- The tokens of any text are as the document says. -/
import Derived.Test.YtblfcmjcdclijaaQSx22
import Derived.Test.YtblfcmjcdclijaaPScan
namespace Go.Proofs.Ytblfcmjcdclijaa.Pure
open Go.RowKit Go.Proofs.Ytblfcmjcdclijaa.QS Go.Proofs.Ytblfcmjcdclijaa.PureS Go.Proofs.YtblfcmjcdclijaaW.PrintWords Go.Proofs.YtblfcmjcdclijaaW.PrintLast
theorem rw64 {n : Int} (h0 : -9223372036854775808 ≤ n) (h1 : n ≤ 9223372036854775807) : wrap64 n = n := by unfold wrap64; omega
theorem rmono_up {α : Type} {f : Nat → Option α} (hm : ∀ k, LeO (f k) (f (k + 1))) {r : α} {k : Nat} (h : f k = some r) : ∀ d, f (k + d) = some r := by
  intro d
  induction d with
  | zero => exact h
  | succ d ih => exact hm _ _ ih
theorem awake_up (k : Nat) (hk : 40 ≤ k) : stratagemlaw07_awake.f k = some true := by
  have h : stratagemlaw07_awake.f 40 = some true := by decide +kernel
  have := rmono_up (f := stratagemlaw07_awake.f) (fun k => stratagemlaw07_awake.mono k) h (k - 40)
  rwa [show 40 + (k - 40) = k by omega] at this
/-- A token, told as the document does. -/
def toR (t : S57) : S68 := ⟨t.f0, t.f1, t.f2, t.f3⟩
theorem word_eq (c : Int) : stratagemref07_word.f c = some (letB c) := by
  unfold stratagemref07_word.f letB
  by_cases h : c ≥ 97
  · rw [if_pos h, decide_eq_true (show 97 ≤ c from h)]; rfl
  · rw [if_neg h, decide_eq_false (show ¬ 97 ≤ c from h)]; rfl
theorem digit_eq (c : Int) : stratagemref07_digit.f c = some (digB c) := by
  unfold stratagemref07_digit.f digB
  by_cases h : c ≥ 48
  · rw [if_pos h, decide_eq_true (show 48 ≤ c from h)]; rfl
  · rw [if_neg h, decide_eq_false (show ¬ 48 ≤ c from h)]; rfl
theorem pair_eq (a b : Int) : stratagemref07_pair.f a b = some (pairB a b) := by
  unfold stratagemref07_pair.f pairB
  by_cases h1 : a = 46
  · subst h1
    by_cases h2 : b = 46
    · subst h2; simp
    · rw [if_pos rfl, if_neg h2, if_neg (by decide), if_neg (by decide), if_neg (by decide)]
      simp [h2]
  · rw [if_neg h1]
    by_cases h2 : a = 33
    · rw [if_pos h2]; simp [h2]
    rw [if_neg h2]
    by_cases h3 : a = 60
    · rw [if_pos h3]; simp [h3]
    rw [if_neg h3]
    by_cases h4 : a = 62
    · rw [if_pos h4]; simp [h4]
    rw [if_neg h4]
    simp [h1, h2, h3, h4]
theorem rd_at (l : List Int) (i : Nat) (h : i < l.length) : rd l i = l[i]'h := by simp [rd, h]
theorem one_loop (c : Int) (l : List Int) (hl : l.length ≤ 1000) (d : Nat) : ∀ k i : Nat, i + d = l.length → d < k → stratagemref07_one.l0 k c l i = some ((l.drop i).any (fun x => x == c)) := by
  induction d with
  | zero =>
    intro k i hi hk
    obtain ⟨k, rfl⟩ : ∃ j, k = j + 1 := ⟨k - 1, by omega⟩
    simp only [stratagemref07_one.l0]
    rw [if_neg (by omega), List.drop_of_length_le (by omega)]
    rfl
  | succ d ih =>
    intro k i hi hk
    obtain ⟨k, rfl⟩ : ∃ j, k = j + 1 := ⟨k - 1, by omega⟩
    simp only [stratagemref07_one.l0]
    rw [if_pos (by omega), if_pos (by omega), rd_at l i (by omega), List.drop_eq_getElem_cons (show i < l.length by omega), List.any_cons]
    by_cases h : l[i]'(by omega) = c
    · rw [if_pos h]; simp [h]
    · rw [if_neg h, rw64 (by omega) (by omega), show (i : Int) + 1 = ((i + 1 : Nat) : Int) by omega, ih k (i + 1) (by omega) (by omega)]
      have h' : (l[i]'(by omega) == c) = false := by simpa using h
      rw [h', Bool.false_or]
theorem one_eq (c : Int) (k : Nat) (hk : 12 ≤ k) : stratagemref07_one.f k c = some (markB c) := by
  unfold stratagemref07_one.f
  have h := one_loop c [44, 59, 58, 91, 93, 61, 60, 62, 43, 45, 42] (by decide) 11 k 0 rfl hk
  rw [show ((0 : Nat) : Int) = 0 from rfl] at h
  rw [h]
  congr 1
  rw [Bool.eq_iff_iff]
  simp [markB]
  omega
theorem drop_cons (s : ByteArray) (i : Nat) (h : i < s.size) : ∃ c l, s.data.toList.drop i = c :: l ∧ bt s i = (c.toNat : Int) ∧ s.data.toList.drop (i + 1) = l := by
  have hl : i < s.data.toList.length := by simpa using h
  refine ⟨s.data.toList[i]'hl, s.data.toList.drop (i + 1), List.drop_eq_getElem_cons hl, ?_, rfl⟩
  rw [bt0 s i h]; rfl
theorem ext_drop_take (s : ByteArray) (i n : Nat) : s.extract i (i + n) = ⟨((s.data.toList.drop i).take n).toArray⟩ := by
  apply ByteArray.ext
  apply Array.ext'
  simp
theorem word_loop (s : ByteArray) (hs : s.size ≤ 4000) (acc : List S68) (ha : acc.length ≤ 4000) (x7 : Nat) (kd : Int) (tx : ByteArray) (v at_ : Int) (r : Option (List S68 × Int × Int)) (F : Nat) (d : Nat) :
    ∀ (i : Nat), i + d = s.size → x7 ≤ i →
    (∀ f, F ≤ f → stratagemref07_Scan.l0 f s (acc ++ [⟨kd, s.extract x7 (i + runLen partB (s.data.toList.drop i)), v, at_⟩]) ((i + runLen partB (s.data.toList.drop i) : Nat) : Int) = r) →
    ∀ f, F + d + 1 ≤ f → stratagemref07_Scan.l1 f s acc i x7 kd tx v at_ = r := by
  induction d with
  | zero =>
    intro i hi hx H f hf
    obtain ⟨f, rfl⟩ : ∃ j, f = j + 1 := ⟨f - 1, by omega⟩
    have h := H f (by omega)
    rw [List.drop_of_length_le (by simp; omega)] at h
    simp only [runLen, Nat.add_zero] at h
    simp only [stratagemref07_Scan.l1]
    rw [if_neg (by omega), if_pos (by omega), if_pos (by omega), if_pos (by omega), if_pos (by omega), Int.toNat_natCast, Int.toNat_natCast]
    exact h
  | succ d ih =>
    intro i hi hx H f hf
    obtain ⟨f, rfl⟩ : ∃ j, f = j + 1 := ⟨f - 1, by omega⟩
    obtain ⟨c, l, hd, hb, hd2⟩ := drop_cons s i (by omega)
    simp only [stratagemref07_Scan.l1]
    rw [if_pos (by omega), if_pos (by omega), hb, word_eq, Option.bind_some, digit_eq, Option.bind_some]
    rw [rw64 (n := (i : Int) + 1) (by omega) (by omega), show (i : Int) + 1 = ((i + 1 : Nat) : Int) by omega]
    by_cases hp : partB (c.toNat : Int) = true
    · have hrec := ih (i + 1) (by omega) (by omega) (by
        intro f hf
        have h := H f hf
        rw [hd] at h
        simp only [runLen] at h
        rw [if_pos hp] at h
        rw [hd2, show i + 1 + runLen partB l = i + (runLen partB l + 1) by omega]
        exact h) f (by omega)
      rw [hrec]
      simp only [partB] at hp
      by_cases c1 : letB (c.toNat : Int) = true
      · rw [if_pos c1]
      · rw [if_neg c1]
        by_cases c2 : digB (c.toNat : Int) = true
        · rw [if_pos c2]
        · rw [if_neg c2, if_pos (by simpa [c1, c2] using hp)]
    · have h := H f (by omega)
      rw [hd] at h
      simp only [runLen] at h
      rw [if_neg hp, Nat.add_zero] at h
      simp only [partB, Bool.or_eq_true, not_or] at hp
      rw [if_neg hp.1.1, if_neg hp.1.2, if_neg (by simpa using hp.2), if_pos (by omega), if_pos (by omega), if_pos (by omega), if_pos (by omega), Int.toNat_natCast, Int.toNat_natCast]
      exact h
theorem digit_loop (s : ByteArray) (hs : s.size ≤ 4000) (acc : List S68) (x7 : Nat) (kd : Int) (tx : ByteArray) (v at_ : Int) (r : Option (List S68 × Int × Int)) (F : Nat) (d : Nat) :
    ∀ (i : Nat), i + d = s.size →
    (∀ f, F ≤ f → stratagemref07_Scan.l3 f s acc ((i + runLen digB (s.data.toList.drop i) : Nat) : Int) x7 x7 kd tx v at_ = r) →
    ∀ f, F + d + 2 ≤ f → stratagemref07_Scan.l2 f s acc i x7 kd tx v at_ = r := by
  induction d with
  | zero =>
    intro i hi H f hf
    obtain ⟨f, rfl⟩ : ∃ j, f = j + 1 + 1 := ⟨f - 2, by omega⟩
    have h := H f (by omega)
    rw [List.drop_of_length_le (by simp; omega)] at h
    simp only [runLen, Nat.add_zero] at h
    simp only [stratagemref07_Scan.l2]
    rw [if_neg (by omega)]
    simp only [stratagemref07_Scan.j4]
    exact h
  | succ d ih =>
    intro i hi H f hf
    obtain ⟨f, rfl⟩ : ∃ j, f = j + 1 := ⟨f - 1, by omega⟩
    obtain ⟨c, l, hd, hb, hd2⟩ := drop_cons s i (by omega)
    simp only [stratagemref07_Scan.l2]
    rw [if_pos (by omega), if_pos (by omega), hb, digit_eq, Option.bind_some]
    rw [rw64 (n := (i : Int) + 1) (by omega) (by omega), show (i : Int) + 1 = ((i + 1 : Nat) : Int) by omega]
    by_cases hp : digB (c.toNat : Int) = true
    · have hrec := ih (i + 1) (by omega) (by
        intro f hf
        have h := H f hf
        rw [hd] at h
        simp only [runLen] at h
        rw [if_pos hp] at h
        rw [hd2, show i + 1 + runLen digB l = i + (runLen digB l + 1) by omega]
        exact h) f (by omega)
      rw [hrec, if_pos hp]
    · obtain ⟨f, rfl⟩ : ∃ j, f = j + 1 := ⟨f - 1, by omega⟩
      have h := H f (by omega)
      rw [hd] at h
      simp only [runLen] at h
      rw [if_neg hp, Nat.add_zero] at h
      rw [if_neg hp]
      simp only [stratagemref07_Scan.j4]
      exact h
theorem value_loop (s : ByteArray) (hs : s.size ≤ 4000) (acc : List S68) (ha : acc.length ≤ 4000) (x7 : Nat) (kd : Int) (tx : ByteArray) (at_ : Int) (r : Option (List S68 × Int × Int)) (F e : Nat) (he : e ≤ s.size) (d : Nat) :
    ∀ (i : Nat) (n : Int), i + d = e → x7 ≤ i → 0 ≤ n → n ≤ 1099511627776 → (∀ c ∈ (s.data.toList.drop i).take d, digB (c.toNat : Int) = true) →
    (1099511627776 < valF ((s.data.toList.drop i).take d) n → r = some ([], (x7 : Int), 5)) →
    (¬ 1099511627776 < valF ((s.data.toList.drop i).take d) n → ∀ f, F ≤ f → stratagemref07_Scan.l0 f s (acc ++ [⟨kd, s.extract x7 e, valF ((s.data.toList.drop i).take d) n, at_⟩]) (e : Int) = r) →
    ∀ f, F + d + 1 ≤ f → stratagemref07_Scan.l3 f s acc e x7 i kd tx n at_ = r := by
  induction d with
  | zero =>
    intro i n hi hx hn0 hn1 hdg H1 H2 f hf
    obtain ⟨f, rfl⟩ : ∃ j, f = j + 1 := ⟨f - 1, by omega⟩
    simp only [List.take_zero, valF] at H1 H2
    have h := H2 (by omega) f (by omega)
    simp only [stratagemref07_Scan.l3]
    rw [if_neg (by omega), if_pos (by omega), if_pos (by omega), if_pos (by omega), if_pos (by omega), Int.toNat_natCast, Int.toNat_natCast]
    exact h
  | succ d ih =>
    intro i n hi hx hn0 hn1 hdg H1 H2 f hf
    obtain ⟨f, rfl⟩ : ∃ j, f = j + 1 := ⟨f - 1, by omega⟩
    obtain ⟨c, l, hd, hb, hd2⟩ := drop_cons s i (by omega)
    rw [hd, List.take_succ_cons] at hdg H1 H2
    have hc : digB (c.toNat : Int) = true := hdg c (by simp)
    simp [digB] at hc
    simp only [valF] at H1 H2
    simp only [stratagemref07_Scan.l3]
    rw [if_pos (by omega), if_pos (by omega), if_pos (by omega), hb]
    rw [rw64 (n := 10 * n) (by omega) (by omega), rw64 (n := (c.toNat : Int)) (by omega) (by omega), rw64 (n := 10 * n + (c.toNat : Int)) (by omega) (by omega), rw64 (n := 10 * n + (c.toNat : Int) - 48) (by omega) (by omega), rw64 (n := (i : Int) + 1) (by omega) (by omega), show (i : Int) + 1 = ((i + 1 : Nat) : Int) by omega, show 10 * n + (c.toNat : Int) - 48 = 10 * n + ((c.toNat : Int) - 48) by omega]
    by_cases hb : 10 * n + ((c.toNat : Int) - 48) > 1099511627776
    · rw [if_pos hb] at H1
      rw [if_pos hb, H1 hb]
    · rw [if_neg hb] at H1 H2
      rw [if_neg hb]
      rw [← hd2] at H1 H2 hdg
      exact ih (i + 1) _ (by omega) (by omega) (by omega) (by omega) (fun c hc => hdg c (List.mem_cons_of_mem _ hc)) H1 H2 f (by omega)
theorem runLen_digits (l : List UInt8) : ∀ c ∈ l.take (runLen digB l), digB (c.toNat : Int) = true := by
  intro c hc
  obtain ⟨j, hj, rfl⟩ := List.getElem_of_mem hc
  simp only [List.length_take] at hj
  rw [List.getElem_take]
  exact runLen_all digB l j (by omega) (by omega)
def consT (t : S57) (x : List S57 × Int × Int) : List S57 × Int × Int := if x.2.2 = 0 then (t :: x.1, 0, 0) else ([], x.2.1, x.2.2)
def outR (acc : List S68) (x : List S57 × Int × Int) : List S68 × Int × Int := if x.2.2 = 0 then (acc ++ x.1.map toR, 0, 0) else ([], x.2.1, x.2.2)
theorem out_cons (acc : List S68) (t : S57) (x : List S57 × Int × Int) : outR acc (consT t x) = outR (acc ++ [toR t]) x := by
  unfold outR consT
  by_cases he : x.2.2 = 0
  · rw [if_pos he, if_pos rfl, if_pos he]; simp
  · rw [if_neg he, if_neg he, if_neg he]
theorem scanT_blank (f : Nat) (c : UInt8) (l : List UInt8) (k : Int) (h : (c.toNat : Int) = 32 ∨ (c.toNat : Int) = 10) : scanT (f + 1) (c :: l) k = scanT f l (k + 1) := by
  simp only [scanT]; rw [if_pos h]
theorem scanT_cons (f : Nat) (c : UInt8) (l : List UInt8) (k : Int) (h : ¬ ((c.toNat : Int) = 32 ∨ (c.toNat : Int) = 10)) (a : Int) (b : List UInt8) (v : Int) (hF : firstL (c :: l) = (a, b, v)) (n : Nat) (hn : b.length = n) : scanT (f + 1) (c :: l) k = if a = 0 then ([], k, 2) else if 1099511627776 < v then ([], k, 5) else consT ⟨a, ⟨b.toArray⟩, v, k⟩ (scanT f ((c :: l).drop n) (k + n)) := by
  subst hn
  simp only [scanT]
  rw [if_neg h, hF]
  rfl
theorem ref_loop (s : ByteArray) (hs : s.size ≤ 4000) (d : Nat) :
    ∀ (i : Nat) (acc : List S68) (g : Nat), i + d = s.size → acc.length ≤ i → d < g → ∀ f, 9000 * d + 20 ≤ f →
    stratagemref07_Scan.l0 f s acc i = some (outR acc (scanT g (s.data.toList.drop i) i)) := by
  induction d using Nat.strongRecOn with
  | _ d ih =>
  intro i acc g hi hacc hg f hf
  obtain ⟨f, rfl⟩ : ∃ j, f = j + 1 + 1 + 1 := ⟨f - 3, by omega⟩
  obtain ⟨g, rfl⟩ : ∃ j, g = j + 1 := ⟨g - 1, by omega⟩
  by_cases hlt : i < s.size
  case neg =>
    have hd : s.data.toList.drop i = [] := List.drop_of_length_le (by simp; omega)
    simp only [stratagemref07_Scan.l0]
    rw [if_neg (by omega), hd]
    simp [scanT, outR]
  obtain ⟨c, l, hd, hb, hd2⟩ := drop_cons s i hlt
  have hlen : (c :: l).length = s.size - i := by rw [← hd]; simp
  simp only [List.length_cons] at hlen
  rw [hd]
  simp only [stratagemref07_Scan.l0]
  rw [if_pos (by omega), if_pos (by omega), hb, rw64 (n := (i : Int) + 1) (by omega) (by omega), show (i : Int) + 1 = ((i + 1 : Nat) : Int) by omega]
  by_cases hs1 : (c.toNat : Int) = 32 ∨ (c.toNat : Int) = 10
  · rw [scanT_blank g c l i hs1, show (i : Int) + 1 = ((i + 1 : Nat) : Int) by omega]
    have e : ∀ b : Bool, b = true → stratagemref07_Scan.j1 (f + 1 + 1) s acc ((i + 1 : Nat) : Int) i b 3 ⟨#[]⟩ 0 i = some (outR acc (scanT g l ((i + 1 : Nat) : Int))) := by
      intro b hb
      subst hb
      simp only [stratagemref07_Scan.j1]
      rw [if_pos trivial]
      have h := ih (d - 1) (by omega) (i + 1) acc g (by omega) (by omega) (by omega) (f + 1) (by omega)
      rw [hd2] at h
      exact h
    by_cases h32 : (c.toNat : Int) = 32
    · rw [if_pos h32]
      exact e true rfl
    · rw [if_neg h32]
      exact e _ (by rcases hs1 with h | h; exact absurd h h32; simpa using h)
  have hn32 : ¬ (c.toNat : Int) = 32 := fun h => hs1 (.inl h)
  have hn10 : ((c.toNat : Int) == 10) = false := beq_eq_false_iff_ne.2 (fun h => hs1 (.inr h))
  rw [if_neg hn32, hn10]
  simp only [stratagemref07_Scan.j1]
  rw [if_neg (by decide), if_pos (by omega), if_pos (by omega), hb, word_eq, Option.bind_some, digit_eq, Option.bind_some]
  have hrest : ∀ (n : Nat) (t : S57), 1 ≤ n → n ≤ s.size - i → ∀ f, 9000 * (d - 1) + 20 ≤ f → stratagemref07_Scan.l0 f s (acc ++ [toR t]) ((i + n : Nat) : Int) = some (outR acc (consT t (scanT g ((c :: l).drop n) ((i : Int) + (n : Int))))) := by
    intro n t h1 h2 f hf
    have h := ih (d - n) (by omega) (i + n) (acc ++ [toR t]) g (by omega) (by simp; omega) (by omega) f (by omega)
    have e : s.data.toList.drop (i + n) = (c :: l).drop n := by rw [← hd, List.drop_drop]
    rw [h, out_cons, e, show ((i + n : Nat) : Int) = (i : Int) + (n : Int) by omega]
  by_cases c1 : letB (c.toNat : Int) = true
  · rw [if_pos c1]
    have hF : firstL (c :: l) = (1, (c :: l).take (runLen partB (c :: l)), 0) := by simp only [firstL]; rw [if_pos c1]
    have hpart : partB (c.toNat : Int) = true := by simp [partB, c1]
    have hrun : runLen partB (c :: l) = runLen partB l + 1 := by simp only [runLen]; rw [if_pos hpart]
    have hrl := runLen_le partB l
    have hn : ((c :: l).take (runLen partB (c :: l))).length = runLen partB l + 1 := by rw [hrun]; simp only [List.length_take, List.length_cons]; omega
    rw [scanT_cons g c l i hs1 _ _ _ hF _ hn, if_neg (by omega), if_neg (by omega)]
    refine word_loop s hs acc (by omega) i 1 _ 0 i _ (9000 * (d - 1) + 20) (d - 1) (i + 1) (by omega) (by omega) ?_ (f + 1) (by omega)
    intro f hf
    rw [hd2, show i + 1 + runLen partB l = i + (runLen partB l + 1) by omega]
    have ht : (⟨1, s.extract i (i + (runLen partB l + 1)), 0, (i : Int)⟩ : S68) = toR ⟨1, ⟨((c :: l).take (runLen partB (c :: l))).toArray⟩, 0, (i : Int)⟩ := by
      rw [ext_drop_take, hd, hrun]; rfl
    rw [ht]
    exact hrest _ _ (by omega) (by omega) f hf
  rw [if_neg c1]
  by_cases c2 : digB (c.toNat : Int) = true
  · rw [if_pos c2]
    have hF : firstL (c :: l) = (2, (c :: l).take (runLen digB (c :: l)), valF ((c :: l).take (runLen digB (c :: l))) 0) := by simp only [firstL]; rw [if_neg c1, if_pos c2]
    have hrun : runLen digB (c :: l) = runLen digB l + 1 := by simp only [runLen]; rw [if_pos c2]
    have hrl := runLen_le digB l
    have hn : ((c :: l).take (runLen digB (c :: l))).length = runLen digB l + 1 := by rw [hrun]; simp only [List.length_take, List.length_cons]; omega
    rw [scanT_cons g c l i hs1 _ _ _ hF _ hn, if_neg (by omega)]
    refine digit_loop s hs acc i 2 _ 0 i _ (9000 * (d - 1) + 20 + (runLen digB l + 1) + 1) (d - 1) (i + 1) (by omega) ?_ (f + 1) (by omega)
    intro f hf
    rw [hd2, show i + 1 + runLen digB l = i + (runLen digB l + 1) by omega]
    refine value_loop s hs acc (by omega) i 2 _ i _ (9000 * (d - 1) + 20) (i + (runLen digB l + 1)) (by omega) (runLen digB l + 1) i 0 rfl (Nat.le_refl _) (by decide) (by decide) ?_ ?_ ?_ f hf
    · rw [hd, ← hrun]; exact runLen_digits _
    · intro hbig
      rw [hd, ← hrun] at hbig
      rw [if_pos hbig]
      rfl
    · intro hbig f hf
      rw [hd, ← hrun] at hbig
      rw [if_neg hbig]
      have ht : (⟨2, s.extract i (i + (runLen digB l + 1)), valF ((s.data.toList.drop i).take (runLen digB l + 1)) 0, (i : Int)⟩ : S68) = toR ⟨2, ⟨((c :: l).take (runLen digB (c :: l))).toArray⟩, valF ((c :: l).take (runLen digB (c :: l))) 0, (i : Int)⟩ := by
        rw [ext_drop_take, hd, hrun]; rfl
      rw [ht]
      exact hrest _ _ (by omega) (by omega) f hf
  rw [if_neg c2]
  have hj6 : ∀ b : Bool, (b = true ↔ pair2 c l = true) → (b = true → i + 1 < s.size) → stratagemref07_Scan.j6 (f + 1) s acc ((i + 1 : Nat) : Int) i b 3 ⟨#[]⟩ 0 i = some (outR acc (scanT (g + 1) (c :: l) i)) := by
    intro b hbp hbs
    simp only [stratagemref07_Scan.j6]
    by_cases hbt : b = true
    · have c3 := hbp.1 hbt
      have hsz := hbs hbt
      have hF : firstL (c :: l) = (3, (c :: l).take 2, 0) := by simp only [firstL]; rw [if_neg c1, if_neg c2, if_pos c3]
      have hn : ((c :: l).take 2).length = 2 := by simp only [List.length_take, List.length_cons]; omega
      rw [if_pos hbt, rw64 (n := ((i + 1 : Nat) : Int) + 1) (by omega) (by omega), show ((i + 1 : Nat) : Int) + 1 = ((i + 2 : Nat) : Int) by omega, if_pos (by omega), if_pos (by omega), if_pos (by omega), if_pos (by omega), Int.toNat_natCast, Int.toNat_natCast, scanT_cons g c l i hs1 _ _ _ hF _ hn, if_neg (by omega), if_neg (by omega)]
      have ht : (⟨3, s.extract i (i + 2), 0, (i : Int)⟩ : S68) = toR ⟨3, ⟨((c :: l).take 2).toArray⟩, 0, (i : Int)⟩ := by
        rw [ext_drop_take, hd]; rfl
      rw [ht]
      exact hrest 2 _ (by omega) (by omega) f (by omega)
    · have c3 : ¬ pair2 c l = true := fun h => hbt (hbp.2 h)
      rw [if_neg hbt, if_pos (by omega), if_pos (by omega), hb, one_eq _ f (by omega), Option.bind_some]
      by_cases c4 : markB (c.toNat : Int) = true
      · have hF : firstL (c :: l) = (3, [c], 0) := by simp only [firstL]; rw [if_neg c1, if_neg c2, if_neg c3, if_pos c4]
        rw [if_pos c4, if_pos (by omega), if_pos (by omega), if_pos (by omega), Int.toNat_natCast, Int.toNat_natCast, scanT_cons g c l i hs1 _ _ _ hF 1 rfl, if_neg (by omega), if_neg (by omega)]
        have ht : (⟨3, s.extract i (i + 1), 0, (i : Int)⟩ : S68) = toR ⟨3, ⟨[c].toArray⟩, 0, (i : Int)⟩ := by
          rw [ext_drop_take, hd]; rfl
        rw [ht]
        exact hrest 1 _ (by omega) (by omega) f (by omega)
      · have hF : firstL (c :: l) = (0, [], 0) := by simp only [firstL]; rw [if_neg c1, if_neg c2, if_neg c3, if_neg c4]
        rw [if_neg c4, scanT_cons g c l i hs1 _ _ _ hF 0 rfl, if_pos rfl]
        rfl
  by_cases hin : i + 1 < s.size
  · rw [if_pos (by omega), if_pos (by omega)]
    obtain ⟨c', l', hd', hb', _⟩ := drop_cons s (i + 1) hin
    rw [hb', pair_eq, Option.bind_some]
    rw [hd2] at hd'
    subst hd'
    exact hj6 _ (by simp [pair2]) (fun _ => hin)
  · rw [if_neg (by omega)]
    have hl0 : l = [] := List.length_eq_zero_iff.1 (by omega)
    subst hl0
    exact hj6 _ (by simp [pair2]) (fun h => by simp at h)
theorem ref_eq (s : ByteArray) (hs : s.size ≤ 4000) (f : Nat) (hf : 9000 * s.size + 20 ≤ f) : stratagemref07_Scan.f f s = some ((scanT (s.size + 1) s.data.toList 0).1.map toR, (scanT (s.size + 1) s.data.toList 0).2.1, (scanT (s.size + 1) s.data.toList 0).2.2) := by
  unfold stratagemref07_Scan.f
  rw [if_neg (by omega)]
  have h := ref_loop s hs s.size 0 [] (s.size + 1) (by omega) (by simp) (by omega) f hf
  rw [show ((0 : Nat) : Int) = 0 from rfl, List.drop_zero] at h
  rw [h]
  have h1 := scanT_ok (s.size + 1) s.data.toList 0
  have h2 := scanT_err (s.size + 1) s.data.toList 0
  generalize scanT (s.size + 1) s.data.toList 0 = x at h1 h2 ⊢
  unfold outR
  by_cases he : x.2.2 = 0
  · rw [if_pos he, List.nil_append, h1 he, he]
  · rw [if_neg he, (h2 he).1]; rfl
theorem rd_S68 (l : List S68) (i : Nat) (h : i < l.length) : rd_T68 l i = l[i]'h := by simp [rd_T68, h]
theorem rdS57 (l : List S57) (i : Nat) (h : i < l.length) : rd_T57 l i = l[i]'h := by simp [rd_T57, h]
theorem same_loop (l : List S68) (hl : l.length ≤ 100000) (d : Nat) : ∀ k i : Nat, i + d = l.length → d < k → stratagemref07_Same.l0 k l l i = some true := by
  induction d with
  | zero =>
    intro k i hi hk
    obtain ⟨k, rfl⟩ : ∃ j, k = j + 1 := ⟨k - 1, by omega⟩
    simp only [stratagemref07_Same.l0]
    rw [if_neg (by omega)]
  | succ d ih =>
    intro k i hi hk
    obtain ⟨k, rfl⟩ : ∃ j, k = j + 1 := ⟨k - 1, by omega⟩
    simp only [stratagemref07_Same.l0]
    rw [if_pos (by omega), if_pos (by omega), if_pos (by omega), if_neg (by simp), rw64 (by omega) (by omega), show (i : Int) + 1 = ((i + 1 : Nat) : Int) by omega]
    exact ih k (i + 1) (by omega) (by omega)
theorem own_loop (l : List S57) (hl : l.length ≤ 100000) (d : Nat) : ∀ (k i : Nat) (acc : List S68), i + d = l.length → acc.length ≤ i → d < k → stratagemlaw07_own.l0 k acc l (l.length : Int) i = some (acc ++ (l.drop i).map toR) := by
  induction d with
  | zero =>
    intro k i acc hi ha hk
    obtain ⟨k, rfl⟩ : ∃ j, k = j + 1 := ⟨k - 1, by omega⟩
    simp only [stratagemlaw07_own.l0]
    rw [if_neg (by omega), List.drop_of_length_le (by omega)]
    simp
  | succ d ih =>
    intro k i acc hi ha hk
    obtain ⟨k, rfl⟩ : ∃ j, k = j + 1 := ⟨k - 1, by omega⟩
    simp only [stratagemlaw07_own.l0]
    rw [if_pos (by omega), if_pos (by omega), if_pos (by omega), if_pos (by omega), rw64 (by omega) (by omega), show (i : Int) + 1 = ((i + 1 : Nat) : Int) by omega, ih k (i + 1) _ (by omega) (by simp; omega) (by omega), rdS57 l i (by omega), List.drop_eq_getElem_cons (show i < l.length by omega)]
    rw [List.map_cons, List.append_assoc]
    rfl
theorem scanT_count (f : Nat) : ∀ (l : List UInt8) (k : Int), (scanT f l k).1.length ≤ l.length := by
  induction f with
  | zero => intro l k; exact Nat.zero_le _
  | succ f ih =>
    intro l k
    cases l with
    | nil => exact Nat.zero_le _
    | cons c l =>
      have hfl := firstL_len c l
      simp only [scanT]
      by_cases hs : (c.toNat : Int) = 32 ∨ (c.toNat : Int) = 10
      · rw [if_pos hs]; have := ih l (k + 1); simp only [List.length_cons]; omega
      rw [if_neg hs]
      by_cases h0 : (firstL (c :: l)).1 = 0
      · rw [if_pos h0]; exact Nat.zero_le _
      rw [if_neg h0]
      by_cases h1 : 1099511627776 < (firstL (c :: l)).2.2
      · rw [if_pos h1]; exact Nat.zero_le _
      rw [if_neg h1]
      have hi := ih ((c :: l).drop (firstL (c :: l)).2.1.length) (k + (firstL (c :: l)).2.1.length)
      have h3 := hfl.2 h0
      simp only [List.length_drop, List.length_cons] at hi ⊢
      generalize scanT f ((c :: l).drop (firstL (c :: l)).2.1.length) (k + (firstL (c :: l)).2.1.length) = x at hi ⊢
      obtain ⟨ts, p, e⟩ := x
      simp only at hi ⊢
      by_cases he : e = 0
      · rw [if_pos he]; simp only [List.length_cons]; omega
      · rw [if_neg he]; simp
theorem ScanTells : stratagemlaw07_ScanTells.Pure := by
  intro s _
  obtain ⟨k, hk⟩ : ∃ k, k = 10000000 := ⟨_, rfl⟩
  refine ⟨k + 1, ?_⟩
  unfold stratagemlaw07_ScanTells.f
  rw [awake_up _ (by omega), Option.bind_some, if_pos rfl]
  have hj : stratagemlaw07_ScanTells.j0 (k + 1) s true = some true := by simp only [stratagemlaw07_ScanTells.j0]; rw [if_pos trivial]
  by_cases hbig : s.size > 4000
  · rw [if_pos (by omega), if_neg (by omega)]
    by_cases h5 : s.size > 5000
    · rw [decide_eq_true (by omega)]; exact hj
    rw [decide_eq_false (by omega)]
    simp only [stratagemlaw07_ScanTells.j0]
    rw [if_neg (by decide)]
    have e1 : scan_Scan.f s = some ([], 0, 5) := by unfold scan_Scan.f; rw [if_pos (by omega), if_pos (by omega)]
    have e2 : stratagemref07_Scan.f k s = some ([], 0, 5) := by unfold stratagemref07_Scan.f; rw [if_pos (by omega)]
    rw [e1, e2]
    simp only [Option.bind_some]
    have e3 : stratagemlaw07_own.f k [] = some [] := by
      unfold stratagemlaw07_own.f
      have := own_loop [] (by simp) 0 k 0 [] rfl (Nat.le_refl _) (by omega)
      simpa using this
    have e4 : stratagemref07_Same.f k [] [] = some true := by
      unfold stratagemref07_Same.f
      rw [if_pos rfl]
      exact same_loop [] (by simp) 0 k 0 rfl (by omega)
    rw [e3, Option.bind_some, e4, Option.bind_some]
    rfl
  · have e : (if (s.size : Int) > 1000 then (if (s.size : Int) ≤ 4000 then (stratagemlaw07_ScanTells.j0 (k + 1) s true) else (stratagemlaw07_ScanTells.j0 (k + 1) s (decide ((s.size : Int) > 5000)))) else (stratagemlaw07_ScanTells.j0 (k + 1) s (decide ((s.size : Int) > 5000)))) = if (s.size : Int) > 1000 then some true else stratagemlaw07_ScanTells.j0 (k + 1) s false := by
      by_cases h1 : (s.size : Int) > 1000
      · rw [if_pos h1, if_pos h1, if_pos (by omega), hj]
      · rw [if_neg h1, if_neg h1, decide_eq_false (by omega)]
    rw [e]
    by_cases h1 : (s.size : Int) > 1000
    · rw [if_pos h1]
    rw [if_neg h1]
    simp only [stratagemlaw07_ScanTells.j0]
    rw [if_neg (by decide), scan_list s (by omega), ref_eq s (by omega) k (by omega)]
    simp only [Option.bind_some]
    have hpl : (scanT (s.size + 1) s.data.toList 0).1.length ≤ 4000 := by
      have := scanT_count (s.size + 1) s.data.toList 0
      have e : s.data.toList.length = s.size := by simp
      omega
    generalize scanT (s.size + 1) s.data.toList 0 = x at hpl ⊢
    obtain ⟨ts, p, er⟩ := x
    simp only at hpl ⊢
    have e3 : stratagemlaw07_own.f k ts = some (ts.map toR) := by
      unfold stratagemlaw07_own.f
      have := own_loop ts (by omega) ts.length k 0 [] (by omega) (Nat.le_refl _) (by omega)
      simpa using this
    have e4 : stratagemref07_Same.f k (ts.map toR) (ts.map toR) = some true := by
      unfold stratagemref07_Same.f
      rw [if_pos rfl]
      exact same_loop _ (by simp; omega) (ts.map toR).length k 0 (by omega) (by simp; omega)
    rw [e3, Option.bind_some, e4, Option.bind_some]
    simp
end Go.Proofs.Ytblfcmjcdclijaa.Pure
