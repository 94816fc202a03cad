/- The tokens of texts: what the Go functions of package scan do at a text's begin. -/
import Derived.Test.YtblfcmjcdclijaaHShelf
import Derived.Test.YtblfcmjcdclijaaHGlob
import Derived.Test.YtblfcmjcdclijaaQSx5
namespace Go.Proofs.Ytblfcmjcdclijaa.QS
open Go.RowKit Go.Proofs.YtblfcmjcdclijaaW.PrintWords Go.Proofs.YtblfcmjcdclijaaW.PrintLast Go.Proofs.YtblfcmjcdclijaaW.PrintMore
set_option linter.unusedSimpArgs false
set_option linter.unusedVariables false
def letB (c : Int) : Bool := decide (97 ≤ c) && decide (c ≤ 122)
def digB (c : Int) : Bool := decide (48 ≤ c) && decide (c ≤ 57)
def partB (c : Int) : Bool := letB c || digB c || c == 95
theorem letter_any (c : Int) (w : World) : Calls Try.prog 44 #[.int .u8 c] w fun e w' => e = .returned (.bool (letB c)) ∧ Drawn0 w w' :=
  scan_letter.calls c _ w (by
    unfold scan_letter.f letB
    by_cases h : c ≥ 97
    · rw [if_pos h, decide_eq_true (show 97 ≤ c from h)]; rfl
    · rw [if_neg h, decide_eq_false (show ¬ 97 ≤ c from h)]; rfl)
theorem digit_any (c : Int) (w : World) : Calls Try.prog 47 #[.int .u8 c] w fun e w' => e = .returned (.bool (digB c)) ∧ Drawn0 w w' :=
  scan_digit.calls c _ w (by
    unfold scan_digit.f digB
    by_cases h : c ≥ 48
    · rw [if_pos h, decide_eq_true (show 48 ≤ c from h)]; rfl
    · rw [if_neg h, decide_eq_false (show ¬ 48 ≤ c from h)]; rfl)
theorem part_any (c : Int) (w : World) : Calls Try.prog 46 #[.int .u8 c] w fun e w' => e = .returned (.bool (partB c)) ∧ Drawn0 w w' :=
  scan_part.calls c _ w (by
    have h1 : scan_letter.f c = some (letB c) := by
      unfold scan_letter.f letB
      by_cases h : c ≥ 97
      · rw [if_pos h, decide_eq_true (show 97 ≤ c from h)]; rfl
      · rw [if_neg h, decide_eq_false (show ¬ 97 ≤ c from h)]; rfl
    have h2 : scan_digit.f c = some (digB c) := by
      unfold scan_digit.f digB
      by_cases h : c ≥ 48
      · rw [if_pos h, decide_eq_true (show 48 ≤ c from h)]; rfl
      · rw [if_neg h, decide_eq_false (show ¬ 48 ≤ c from h)]; rfl
    unfold scan_part.f partB
    rw [h1, h2]
    simp only [Option.bind_some]
    cases letB c <;> cases digB c <;> simp)
/-- How many bytes are such, at a text's begin. -/
def runLen (p : Int → Bool) : List UInt8 → Nat
  | [] => 0
  | c :: l => if p (c.toNat : Int) then runLen p l + 1 else 0
theorem runLen_le (p : Int → Bool) (l : List UInt8) : runLen p l ≤ l.length := by
  induction l with
  | nil => exact Nat.le_refl _
  | cons c l ih => simp only [runLen]; split <;> simp <;> omega
theorem runLen_at (p : Int → Bool) (l : List UInt8) (k : Nat) (h1 : ∀ j (hj : j < k) (hl : j < l.length), p ((l[j]'hl).toNat : Int) = true) (h2 : k ≤ l.length) (h3 : ∀ hl : k < l.length, p ((l[k]'hl).toNat : Int) = false) : runLen p l = k := by
  induction l generalizing k with
  | nil => simp at h2; rw [h2]; rfl
  | cons c l ih =>
    simp only [runLen]
    cases k with
    | zero =>
      have := h3 (by simp)
      simp at this
      rw [if_neg (by simp [this])]
    | succ k =>
      have h0 := h1 0 (by omega) (by simp)
      simp at h0
      rw [if_pos h0, ih k (fun j hj hl => h1 (j + 1) (by omega) (by simp; omega)) (by simpa using h2) (fun hl => h3 (by simp; omega))]
theorem ext_self (s : ByteArray) : s.extract 0 s.size = s := by simp
theorem Drawn0.trans {a b c : World} (h : Drawn0 a b) (k : Drawn0 b c) : Drawn0 a c := by
  obtain ⟨n, rfl⟩ := k
  exact h.step n
set_option maxHeartbeats 800000 in
set_option maxRecDepth 100000 in
theorem run_part (s : ByteArray) (hs : s.size ≤ 140737488351232) (w : World) : Calls Try.prog 45 #[.string s, .func (.func 46) #[] #[]] w fun e w' => e = .returned (.string (s.extract 0 (runLen partB s.data.toList))) ∧ Drawn0 w w' := by
  go_enter Try.func45, Try.ntmps45
  go_wp2
  go_loopw [5] (fun i wr => ∃ k : Nat, k ≤ s.size ∧ i = .int .i64 k ∧ Aside0 (∀ j (hj : j < k) (hl : j < s.size), partB ((s[j]'hl).toNat : Int) = true) ∧ Aside0 (Drawn0 w wr)) (fun i _ => s.size - (intOf i).toNat)
  case atStart => exact ⟨0, Nat.zero_le _, rfl, ⟨fun j hj => absurd hj (by omega)⟩, ⟨Drawn0.refl _⟩⟩
  case round =>
    obtain ⟨k, hk, rfl, HP, HD⟩ := hrel
    by_cases hlt : k < s.size
    · by_cases hp : partB ((s[k]'hlt).toNat : Int) = true
      · go_wp2_with (go_at_call 46; refine (part_any _ _).mono ?_; rintro e w' ⟨rfl, hd⟩; replace HD : Aside0 (Drawn0 w w') := ⟨Drawn0.trans HD.out hd⟩; clear hd)
        go_roundw
        case rel => exact ⟨k + 1, by omega, by go_num, ⟨fun j hj hl => by
          by_cases e : j = k
          · subst e; exact hp
          · exact HP.out j (by omega) hl⟩, HD⟩
        case measure => simp [intOf]; omega
      · replace hp : partB ((s[k]'hlt).toNat : Int) = false := by simpa using hp
        have HE : Aside0 (runLen partB s.data.toList = k) := ⟨runLen_at partB s.data.toList k (fun j hj hl => HP.out j hj hl) (by simpa using hk) (fun hl => hp)⟩
        go_wp2_with (go_at_call 46; refine (part_any _ _).mono ?_; rintro e w' ⟨rfl, hd⟩; replace HD : Aside0 (Drawn0 w w') := ⟨Drawn0.trans HD.out hd⟩; clear hd)
        go_ret
        exact ⟨by rw [HE.out]; rfl, HD.out⟩
    · have e : k = s.size := by omega
      subst e
      have HE : Aside0 (runLen partB s.data.toList = s.size) := ⟨runLen_at partB s.data.toList s.size (fun j hj hl => HP.out j hj hl) (by simp) (fun hl => absurd hl (by simp))⟩
      go_wp2
      go_ret
      exact ⟨by rw [HE.out, ext_self]; rfl, HD.out⟩
set_option maxHeartbeats 800000 in
set_option maxRecDepth 100000 in
theorem run_digit (s : ByteArray) (hs : s.size ≤ 140737488351232) (w : World) : Calls Try.prog 45 #[.string s, .func (.func 47) #[] #[]] w fun e w' => e = .returned (.string (s.extract 0 (runLen digB s.data.toList))) ∧ Drawn0 w w' := by
  go_enter Try.func45, Try.ntmps45
  go_wp2
  go_loopw [5] (fun i wr => ∃ k : Nat, k ≤ s.size ∧ i = .int .i64 k ∧ Aside0 (∀ j (hj : j < k) (hl : j < s.size), digB ((s[j]'hl).toNat : Int) = true) ∧ Aside0 (Drawn0 w wr)) (fun i _ => s.size - (intOf i).toNat)
  case atStart => exact ⟨0, Nat.zero_le _, rfl, ⟨fun j hj => absurd hj (by omega)⟩, ⟨Drawn0.refl _⟩⟩
  case round =>
    obtain ⟨k, hk, rfl, HP, HD⟩ := hrel
    by_cases hlt : k < s.size
    · by_cases hp : digB ((s[k]'hlt).toNat : Int) = true
      · go_wp2_with (go_at_call 47; refine (digit_any _ _).mono ?_; rintro e w' ⟨rfl, hd⟩; replace HD : Aside0 (Drawn0 w w') := ⟨Drawn0.trans HD.out hd⟩; clear hd)
        go_roundw
        case rel => exact ⟨k + 1, by omega, by go_num, ⟨fun j hj hl => by
          by_cases e : j = k
          · subst e; exact hp
          · exact HP.out j (by omega) hl⟩, HD⟩
        case measure => simp [intOf]; omega
      · replace hp : digB ((s[k]'hlt).toNat : Int) = false := by simpa using hp
        have HE : Aside0 (runLen digB s.data.toList = k) := ⟨runLen_at digB s.data.toList k (fun j hj hl => HP.out j hj hl) (by simpa using hk) (fun hl => hp)⟩
        go_wp2_with (go_at_call 47; refine (digit_any _ _).mono ?_; rintro e w' ⟨rfl, hd⟩; replace HD : Aside0 (Drawn0 w w') := ⟨Drawn0.trans HD.out hd⟩; clear hd)
        go_ret
        exact ⟨by rw [HE.out]; rfl, HD.out⟩
    · have e : k = s.size := by omega
      subst e
      have HE : Aside0 (runLen digB s.data.toList = s.size) := ⟨runLen_at digB s.data.toList s.size (fun j hj hl => HP.out j hj hl) (by simp) (fun hl => absurd hl (by simp))⟩
      go_wp2
      go_ret
      exact ⟨by rw [HE.out, ext_self]; rfl, HD.out⟩

/-- A number's value, as far as it is looked at. -/
def valF : List UInt8 → Int → Int
  | [], n => n
  | c :: l, n => if 10 * n + ((c.toNat : Int) - 48) > 1099511627776 then 10 * n + ((c.toNat : Int) - 48) else valF l (10 * n + ((c.toNat : Int) - 48))
theorem valF_drop (s : ByteArray) (k : Nat) (hk : k < s.size) (n : Int) : valF (s.data.toList.drop k) n = if 10 * n + (((s[k]'hk).toNat : Int) - 48) > 1099511627776 then 10 * n + (((s[k]'hk).toNat : Int) - 48) else valF (s.data.toList.drop (k + 1)) (10 * n + (((s[k]'hk).toNat : Int) - 48)) := by
  rw [List.drop_eq_getElem_cons (show k < s.data.toList.length from hk)]
  rfl
set_option maxHeartbeats 800000 in
set_option maxRecDepth 100000 in
theorem value_any (s : ByteArray) (hs : s.size ≤ 140737488351232) (hd : ∀ j (hl : j < s.size), digB ((s[j]'hl).toNat : Int) = true) (w : World) : Calls Try.prog 48 #[.string s] w fun e w' => e = .returned (.int .i64 (valF s.data.toList 0)) ∧ Drawn0 w w' := by
  have HD := Aside0.mk hd
  clear hd
  go_enter Try.func48, Try.ntmps48
  go_wp2
  go_step3
  go_wp2
  go_step3
  go_wp2
  go_loopg [3, 4, 7] (s.size) (fun kq v3 v4 v7 w' => ∃ (k : Nat) (n : Int), k + kq = s.size ∧ v7 = .int .i64 k ∧ v3 = .int .i64 n ∧ Aside0 (valF s.data.toList 0 = valF (s.data.toList.drop k) n ∧ 0 ≤ n ∧ n ≤ 1099511627776) ∧ Drawn0 w w')
  case atStart => exact ⟨0, 0, by omega, rfl, rfl, ⟨rfl, by omega, by omega⟩, Drawn0.refl _⟩
  case round =>
    obtain ⟨k, n, hk, rfl, rfl, HV, ⟨m, rfl⟩⟩ := hrel
    by_cases hlt : k < s.size
    · obtain ⟨n0, n1⟩ := HV.out.2
      have HC : Aside0 (48 ≤ ((s[k]'hlt).toNat : Int) ∧ ((s[k]'hlt).toNat : Int) ≤ 57) := ⟨by
        have := HD.out k hlt
        simp [digB] at this
        omega⟩
      obtain ⟨c0, c1⟩ := HC.out
      by_cases hbig : 10 * n + (((s[k]'hlt).toNat : Int) - 48) > 1099511627776
      · have hb1 : decide (1099511627776 < 10 * n + (((s[k]'hlt).toNat : Int) - 48)) = true := decide_eq_true hbig
        have HE : Aside0 (valF s.data.toList 0 = 10 * n + (((s[k]'hlt).toNat : Int) - 48)) := ⟨by rw [HV.out.1, valF_drop s k hlt, if_pos hbig]⟩
        clear hbig
        go_wp2
        rw [Exit.noGoto_ret]
        go_ret
        exact ⟨by rw [HE.out]; rfl, ⟨⟨m, rfl⟩⟩⟩
      · have hb1 : decide (1099511627776 < 10 * n + (((s[k]'hlt).toNat : Int) - 48)) = false := decide_eq_false hbig
        have HE : Aside0 (valF s.data.toList 0 = valF (s.data.toList.drop (k + 1)) (10 * n + (((s[k]'hlt).toNat : Int) - 48))) := ⟨by rw [HV.out.1, valF_drop s k hlt, if_neg hbig]⟩
        have hle : 10 * n + (((s[k]'hlt).toNat : Int) - 48) ≤ 1099511627776 := by omega
        clear hbig
        go_wp2
        go_roundg (gk - 1)
        case measure => omega
        case rel => exact ⟨k + 1, _, by omega, by go_num, rfl, ⟨HE.out, by omega, hle⟩, ⟨⟨m, rfl⟩⟩⟩
    · have e : k = s.size := by omega
      subst e
      have HE : Aside0 (valF s.data.toList 0 = n) := ⟨by rw [HV.out.1, List.drop_of_length_le (by simp)]; rfl⟩
      go_wp2
      rw [Exit.noGoto_ret]
      go_ret
      exact ⟨by rw [HE.out]; rfl, ⟨⟨m, rfl⟩⟩⟩
/-- Do two bytes make one mark? -/
def pairB (a b : Int) : Bool := (a == 46 && b == 46) || ((a == 33 || a == 60 || a == 62) && b == 61)
/-- Is a byte a mark? -/
def markB (c : Int) : Bool := c == 44 || c == 59 || c == 58 || c == 91 || c == 93 || c == 61 || c == 60 || c == 62 || c == 43 || c == 45 || c == 42
def pairsL : List UInt8 := [32, 46, 46, 32, 33, 61, 32, 60, 61, 32, 62, 61, 32]
def marksL : List UInt8 := [44, 59, 58, 91, 93, 61, 60, 62, 43, 45, 42]
theorem beq_u8 (a b : UInt8) : (a == b) = ((a.toNat : Int) == (b.toNat : Int)) := by
  rw [Bool.eq_iff_iff]
  simp [← UInt8.toNat_inj]
  omega
theorem contains_cons (b : UInt8) (l sub : List UInt8) : Lib.contains (b :: l) sub = (sub.isPrefixOf (b :: l) || Lib.contains l sub) := by
  unfold Lib.contains
  have h := Lib.index_ge l sub
  rw [Lib.index]
  by_cases h1 : sub.isPrefixOf (b :: l) = true
  · rw [if_pos h1, h1]; simp
  · rw [if_neg h1]
    replace h1 : sub.isPrefixOf (b :: l) = false := Bool.eq_false_iff.2 h1
    rw [h1, Bool.false_or]
    by_cases h2 : Lib.index l sub = -1
    · rw [if_pos (by simp [h2]), h2]
    · rw [if_neg (by simp [h2]), decide_eq_true (by omega), decide_eq_true (by omega)]
theorem contains_nil (c : UInt8) (sub : List UInt8) : Lib.contains [] (c :: sub) = false := by simp [Lib.contains, Lib.index]
theorem index_cons (b : UInt8) (l : List UInt8) (c : UInt8) : decide (Lib.indexByte (b :: l) c ≥ 0) = (b == c || decide (Lib.indexByte l c ≥ 0)) := by
  have h := Lib.indexByte_ge l c
  rw [Lib.indexByte]
  by_cases h1 : (b == c) = true
  · rw [if_pos h1, h1]; simp
  · rw [if_neg h1]
    replace h1 : (b == c) = false := by simpa using h1
    rw [h1, Bool.false_or]
    by_cases h2 : Lib.indexByte l c = -1
    · rw [if_pos (by simp [h2]), h2]
    · rw [if_neg (by simp [h2]), decide_eq_true (by omega), decide_eq_true (by omega)]
theorem index_nil (c : UInt8) : decide (Lib.indexByte [] c ≥ 0) = false := by simp [Lib.indexByte]
theorem contains_pairs (a b : UInt8) : Lib.contains pairsL [32, a, b, 32] = pairB a.toNat b.toNat := by
  unfold pairsL pairB
  simp only [contains_cons, contains_nil, List.isPrefixOf, beq_u8]
  simp
  rw [Bool.eq_iff_iff]
  simp
  omega
theorem index_marks (c : UInt8) : decide (Lib.indexByte marksL c ≥ 0) = markB c.toNat := by
  unfold marksL markB
  simp only [index_cons, index_nil, beq_u8]
  rw [Bool.eq_iff_iff]
  simp
  omega
set_option maxHeartbeats 1600000 in
set_option maxRecDepth 100000 in
theorem first_letter (s : ByteArray) (hs : s.size ≤ 140737488351232) (h0 : 0 < s.size) (hl : letB ((s[0]'h0).toNat : Int) = true) (w : World) : Calls Try.prog 39 #[.string s] w fun e w' => e = .returned (.agg #[.int .i64 1, .string (s.extract 0 (runLen partB s.data.toList)), .int .i64 (0), .int .i64 0]) ∧ Below w.heap.size w w' := by
  go_enter Try.func39, Try.ntmps39
  go_wp2_with (fail)
  refine (letter_any _ _).mono ?_
  rintro e w1 ⟨rfl, ⟨q1, rfl⟩⟩
  go_wp2_with (fail)
  refine (run_part s hs _).mono ?_
  rintro e w1 ⟨rfl, ⟨q2, rfl⟩⟩
  go_wp2
  refine bodyPost_ret (v := .agg #[.int .i64 1, .string (s.extract 0 (runLen partB s.data.toList)), .int .i64 (0), .int .i64 0]) (by simp [results, Try.results39, go_sem]) rfl ⟨rfl, (by repeat (first | (refine below_set ?_ (Nat.le_refl _)) | apply pw_below_drewN | apply below_alloc | exact Below.refl _ _))⟩
set_option maxHeartbeats 1600000 in
set_option maxRecDepth 100000 in
theorem first_digit (s : ByteArray) (hs : s.size ≤ 140737488351232) (h0 : 0 < s.size) (hl : letB ((s[0]'h0).toNat : Int) = false) (hd : digB ((s[0]'h0).toNat : Int) = true) (n : Int) (hv : ∀ W : World, Calls Try.prog 48 #[.string (s.extract 0 (runLen digB s.data.toList))] W fun e w' => e = .returned (.int .i64 n) ∧ Drawn0 W w') (w : World) : Calls Try.prog 39 #[.string s] w fun e w' => e = .returned (.agg #[.int .i64 2, .string (s.extract 0 (runLen digB s.data.toList)), .int .i64 (n), .int .i64 0]) ∧ Below w.heap.size w w' := by
  have HV := Aside0.mk hv
  clear hv
  go_enter Try.func39, Try.ntmps39
  go_wp2_with (fail)
  refine (letter_any _ _).mono ?_
  rintro e w1 ⟨rfl, ⟨q1, rfl⟩⟩
  go_wp2_with (fail)
  refine (digit_any _ _).mono ?_
  rintro e w1 ⟨rfl, ⟨q2, rfl⟩⟩
  go_wp2_with (fail)
  refine (run_digit s hs _).mono ?_
  rintro e w1 ⟨rfl, ⟨q3, rfl⟩⟩
  go_wp2_with (fail)
  refine (HV.out _).mono ?_
  rintro e w1 ⟨rfl, ⟨q4, rfl⟩⟩
  go_wp2
  refine bodyPost_ret (v := .agg #[.int .i64 2, .string (s.extract 0 (runLen digB s.data.toList)), .int .i64 (n), .int .i64 0]) (by simp [results, Try.results39, go_sem]) rfl ⟨rfl, (by repeat (first | (refine below_set ?_ (Nat.le_refl _)) | apply pw_below_drewN | apply below_alloc | exact Below.refl _ _))⟩
theorem sub_toList (s : ByteArray) (h : 1 < s.size) : (({ data := #[32] } : ByteArray) ++ s.extract 0 2 ++ { data := #[32] }).data.toList = ([32, s[0]'(by omega), s[1]'h, 32] : List UInt8) := by
  have e : List.take 2 s.data.toList = [s[0]'(by omega), s[1]'h] := by
    apply List.ext_getElem
    · simp; omega
    · intro i h1 h2
      have : i = 0 ∨ i = 1 := by simp at h2; omega
      rcases this with rfl | rfl <;> simp <;> rfl
  simp [e]
set_option maxHeartbeats 1600000 in
set_option maxRecDepth 100000 in
theorem first_pair (s : ByteArray) (h0 : 1 < s.size) (hl : letB ((s[0]'(by omega)).toNat : Int) = false) (hd : digB ((s[0]'(by omega)).toNat : Int) = false) (hp : pairB ((s[0]'(by omega)).toNat : Int) ((s[1]'h0).toNat : Int) = true) (w : World) (hG : GOK w) : Calls Try.prog 39 #[.string s] w fun e w' => e = .returned (.agg #[.int .i64 3, .string (s.extract 0 2), .int .i64 (0), .int .i64 0]) ∧ Below w.heap.size w w' := by
  have hm' := hG
  obtain ⟨HM, hm⟩ := hm'
  have hm : ∀ (o : Obj) (q : Nat), ((w.alloc o).drewN q).cell? ⟨0, 0, none⟩ = some (.int .i64 HM) := fun o q => pw_cell_below (pw_below_drewN (below_alloc (Below.refl _ _) o) q) hm
  have HMm := Aside0.mk hm
  clear hm hG
  have HC : Aside0 (Lib.contains (⟨#[32, 46, 46, 32, 33, 61, 32, 60, 61, 32, 62, 61, 32]⟩ : ByteArray).data.toList (({ data := #[32] } : ByteArray) ++ s.extract 0 2 ++ { data := #[32] }).data.toList = true) := ⟨by
    have h := contains_pairs (s[0]'(by omega)) (s[1]'h0)
    rw [hp] at h
    rw [sub_toList s h0]
    exact h⟩
  have h1 : decide (1 < (s.size : Int)) = true := decide_eq_true (by omega)
  clear hp
  go_enter Try.func39, Try.ntmps39
  go_wp2_with (fail)
  refine (letter_any _ _).mono ?_
  rintro e w1 ⟨rfl, ⟨q1, rfl⟩⟩
  go_wp2_with (fail)
  refine (digit_any _ _).mono ?_
  rintro e w1 ⟨rfl, ⟨q2, rfl⟩⟩
  go_wp2_with (fail)
  refine (Try.strings_Contains _ _ HM _ (by decide) (by exact HMm.out _ _)).mono ?_
  rintro e w1 ⟨rfl, rfl⟩
  rw [HC.out]
  go_wp2
  refine bodyPost_ret (v := .agg #[.int .i64 3, .string (s.extract 0 2), .int .i64 (0), .int .i64 0]) (by simp [results, Try.results39, go_sem]) rfl ⟨rfl, (by repeat (first | (refine below_set ?_ (Nat.le_refl _)) | apply pw_below_drewN | apply below_alloc | exact Below.refl _ _))⟩
set_option maxHeartbeats 1600000 in
set_option maxRecDepth 100000 in
theorem first_mark (s : ByteArray) (h0 : 0 < s.size) (hl : letB ((s[0]'h0).toNat : Int) = false) (hd : digB ((s[0]'h0).toNat : Int) = false) (hp : ∀ h1 : 1 < s.size, pairB ((s[0]'h0).toNat : Int) ((s[1]'h1).toNat : Int) = false) (hmk : markB ((s[0]'h0).toNat : Int) = true) (w : World) (hG : GOK w) : Calls Try.prog 39 #[.string s] w fun e w' => e = .returned (.agg #[.int .i64 3, .string (s.extract 0 1), .int .i64 (0), .int .i64 0]) ∧ Below w.heap.size w w' := by
  have hm' := hG
  obtain ⟨HM, hm⟩ := hm'
  have hm : ∀ (o : Obj) (q : Nat), ((w.alloc o).drewN q).cell? ⟨0, 0, none⟩ = some (.int .i64 HM) := fun o q => pw_cell_below (pw_below_drewN (below_alloc (Below.refl _ _) o) q) hm
  have HMm := Aside0.mk hm
  clear hm hG
  have HI : Aside0 (0 ≤ Lib.indexByte marksL (s[0]'h0)) := ⟨by have h := index_marks (s[0]'h0); rw [hmk] at h; simpa using h⟩
  have hcu : ((s[0]'h0).toNat : Int).toNat.toUInt8 = s[0]'h0 := by simp
  have HCU := Aside0.mk hcu
  clear hcu
  have HS := Aside0.mk hp
  clear hp
  by_cases h1 : 1 < s.size
  · have HC : Aside0 (Lib.contains (⟨#[32, 46, 46, 32, 33, 61, 32, 60, 61, 32, 62, 61, 32]⟩ : ByteArray).data.toList (({ data := #[32] } : ByteArray) ++ s.extract 0 2 ++ { data := #[32] }).data.toList = false) := ⟨by
      have h := contains_pairs (s[0]'(by omega)) (s[1]'h1)
      rw [HS.out h1] at h
      rw [sub_toList s h1]
      exact h⟩
    have h1' : decide (1 < (s.size : Int)) = true := decide_eq_true (by omega)
    go_enter Try.func39, Try.ntmps39
    go_wp2_with (fail)
    refine (letter_any _ _).mono ?_
    rintro e w1 ⟨rfl, ⟨q1, rfl⟩⟩
    go_wp2_with (fail)
    refine (digit_any _ _).mono ?_
    rintro e w1 ⟨rfl, ⟨q2, rfl⟩⟩
    go_wp2_with (fail)
    refine (Try.strings_Contains _ _ HM _ (by decide) (by exact HMm.out _ _)).mono ?_
    rintro e w1 ⟨rfl, rfl⟩
    rw [HC.out]
    go_wp2_with (fail)
    refine (Try.strings_IndexByte _ _ _).mono ?_
    rintro e w1 ⟨rfl, rfl⟩
    rw [HCU.out]
    obtain ⟨J, hJ, hJ2⟩ : ∃ J, Lib.indexByte marksL (s[0]'h0) = J ∧ 0 ≤ J := ⟨_, rfl, HI.out⟩
    rw [show Lib.indexByte (ByteArray.mk #[44, 59, 58, 91, 93, 61, 60, 62, 43, 45, 42]).data.toList (s[0]'h0) = J from hJ]
    clear hJ
    go_wp2
    refine bodyPost_ret (v := .agg #[.int .i64 3, .string (s.extract 0 1), .int .i64 (0), .int .i64 0]) (by simp [results, Try.results39, go_sem]) rfl ⟨rfl, (by repeat (first | (refine below_set ?_ (Nat.le_refl _)) | apply pw_below_drewN | apply below_alloc | exact Below.refl _ _))⟩
  · have h1' : decide (1 < (s.size : Int)) = false := decide_eq_false (by omega)
    go_enter Try.func39, Try.ntmps39
    go_wp2_with (fail)
    refine (letter_any _ _).mono ?_
    rintro e w1 ⟨rfl, ⟨q1, rfl⟩⟩
    go_wp2_with (fail)
    refine (digit_any _ _).mono ?_
    rintro e w1 ⟨rfl, ⟨q2, rfl⟩⟩
    go_wp2_with (fail)
    refine (Try.strings_IndexByte _ _ _).mono ?_
    rintro e w1 ⟨rfl, rfl⟩
    rw [HCU.out]
    obtain ⟨J, hJ, hJ2⟩ : ∃ J, Lib.indexByte marksL (s[0]'h0) = J ∧ 0 ≤ J := ⟨_, rfl, HI.out⟩
    rw [show Lib.indexByte (ByteArray.mk #[44, 59, 58, 91, 93, 61, 60, 62, 43, 45, 42]).data.toList (s[0]'h0) = J from hJ]
    clear hJ
    go_wp2
    refine bodyPost_ret (v := .agg #[.int .i64 3, .string (s.extract 0 1), .int .i64 (0), .int .i64 0]) (by simp [results, Try.results39, go_sem]) rfl ⟨rfl, (by repeat (first | (refine below_set ?_ (Nat.le_refl _)) | apply pw_below_drewN | apply below_alloc | exact Below.refl _ _))⟩
set_option maxHeartbeats 1600000 in
set_option maxRecDepth 100000 in
theorem first_none (s : ByteArray) (h0 : 0 < s.size) (hl : letB ((s[0]'h0).toNat : Int) = false) (hd : digB ((s[0]'h0).toNat : Int) = false) (hp : ∀ h1 : 1 < s.size, pairB ((s[0]'h0).toNat : Int) ((s[1]'h1).toNat : Int) = false) (hmk : markB ((s[0]'h0).toNat : Int) = false) (w : World) (hG : GOK w) : Calls Try.prog 39 #[.string s] w fun e w' => e = .returned (.agg #[.int .i64 0, .string ((⟨#[]⟩ : ByteArray)), .int .i64 (0), .int .i64 0]) ∧ Below w.heap.size w w' := by
  have hm' := hG
  obtain ⟨HM, hm⟩ := hm'
  have hm : ∀ (o : Obj) (q : Nat), ((w.alloc o).drewN q).cell? ⟨0, 0, none⟩ = some (.int .i64 HM) := fun o q => pw_cell_below (pw_below_drewN (below_alloc (Below.refl _ _) o) q) hm
  have HMm := Aside0.mk hm
  clear hm hG
  have HI : Aside0 (Lib.indexByte marksL (s[0]'h0) < 0) := ⟨by have h := index_marks (s[0]'h0); rw [hmk] at h; simpa using h⟩
  have hcu : ((s[0]'h0).toNat : Int).toNat.toUInt8 = s[0]'h0 := by simp
  have HCU := Aside0.mk hcu
  clear hcu
  have HS := Aside0.mk hp
  clear hp
  by_cases h1 : 1 < s.size
  · have HC : Aside0 (Lib.contains (⟨#[32, 46, 46, 32, 33, 61, 32, 60, 61, 32, 62, 61, 32]⟩ : ByteArray).data.toList (({ data := #[32] } : ByteArray) ++ s.extract 0 2 ++ { data := #[32] }).data.toList = false) := ⟨by
      have h := contains_pairs (s[0]'(by omega)) (s[1]'h1)
      rw [HS.out h1] at h
      rw [sub_toList s h1]
      exact h⟩
    have h1' : decide (1 < (s.size : Int)) = true := decide_eq_true (by omega)
    go_enter Try.func39, Try.ntmps39
    go_wp2_with (fail)
    refine (letter_any _ _).mono ?_
    rintro e w1 ⟨rfl, ⟨q1, rfl⟩⟩
    go_wp2_with (fail)
    refine (digit_any _ _).mono ?_
    rintro e w1 ⟨rfl, ⟨q2, rfl⟩⟩
    go_wp2_with (fail)
    refine (Try.strings_Contains _ _ HM _ (by decide) (by exact HMm.out _ _)).mono ?_
    rintro e w1 ⟨rfl, rfl⟩
    rw [HC.out]
    go_wp2_with (fail)
    refine (Try.strings_IndexByte _ _ _).mono ?_
    rintro e w1 ⟨rfl, rfl⟩
    rw [HCU.out]
    obtain ⟨J, hJ, hJ2⟩ : ∃ J, Lib.indexByte marksL (s[0]'h0) = J ∧ J < 0 := ⟨_, rfl, HI.out⟩
    rw [show Lib.indexByte (ByteArray.mk #[44, 59, 58, 91, 93, 61, 60, 62, 43, 45, 42]).data.toList (s[0]'h0) = J from hJ]
    clear hJ
    go_wp2
    refine bodyPost_ret (v := .agg #[.int .i64 0, .string ((⟨#[]⟩ : ByteArray)), .int .i64 (0), .int .i64 0]) (by simp [results, Try.results39, go_sem]) rfl ⟨rfl, (by repeat (first | (refine below_set ?_ (Nat.le_refl _)) | apply pw_below_drewN | apply below_alloc | exact Below.refl _ _))⟩
  · have h1' : decide (1 < (s.size : Int)) = false := decide_eq_false (by omega)
    go_enter Try.func39, Try.ntmps39
    go_wp2_with (fail)
    refine (letter_any _ _).mono ?_
    rintro e w1 ⟨rfl, ⟨q1, rfl⟩⟩
    go_wp2_with (fail)
    refine (digit_any _ _).mono ?_
    rintro e w1 ⟨rfl, ⟨q2, rfl⟩⟩
    go_wp2_with (fail)
    refine (Try.strings_IndexByte _ _ _).mono ?_
    rintro e w1 ⟨rfl, rfl⟩
    rw [HCU.out]
    obtain ⟨J, hJ, hJ2⟩ : ∃ J, Lib.indexByte marksL (s[0]'h0) = J ∧ J < 0 := ⟨_, rfl, HI.out⟩
    rw [show Lib.indexByte (ByteArray.mk #[44, 59, 58, 91, 93, 61, 60, 62, 43, 45, 42]).data.toList (s[0]'h0) = J from hJ]
    clear hJ
    go_wp2
    refine bodyPost_ret (v := .agg #[.int .i64 0, .string ((⟨#[]⟩ : ByteArray)), .int .i64 (0), .int .i64 0]) (by simp [results, Try.results39, go_sem]) rfl ⟨rfl, (by repeat (first | (refine below_set ?_ (Nat.le_refl _)) | apply pw_below_drewN | apply below_alloc | exact Below.refl _ _))⟩
theorem bt0 (s : ByteArray) (k : Nat) (h : k < s.size) : bt s k = ((s[k]'h).toNat : Int) := (bt_at s k h).symm
theorem runLen_all (p : Int → Bool) (l : List UInt8) (j : Nat) (hj : j < runLen p l) (hl : j < l.length) : p ((l[j]'hl).toNat : Int) = true := by
  induction l generalizing j with
  | nil => simp at hl
  | cons c l ih =>
    simp only [runLen] at hj
    by_cases h : p (c.toNat : Int) = true
    · rw [if_pos h] at hj
      cases j with
      | zero => exact h
      | succ j => exact ih j (by omega) (by simpa using hl)
    · rw [if_neg h] at hj
      omega
theorem valF_run_digits (s : ByteArray) (j : Nat) (hl : j < (s.extract 0 (runLen digB s.data.toList)).size) : digB (((s.extract 0 (runLen digB s.data.toList))[j]'hl).toNat : Int) = true := by
  have h1 : j < runLen digB s.data.toList := by simp at hl; omega
  have h2 : j < s.data.toList.length := by simp at hl ⊢; omega
  have e : (s.extract 0 (runLen digB s.data.toList))[j]'hl = s.data.toList[j]'h2 := by
    simp [ByteArray.getElem_extract]
    rfl
  rw [e]
  exact runLen_all digB s.data.toList j h1 h2
/-- The token that begins here. -/
def firstF (s : ByteArray) : Int × ByteArray × Int × Int :=
  if letB (bt s 0) then (1, s.extract 0 (runLen partB s.data.toList), 0, 0)
  else if digB (bt s 0) then (2, s.extract 0 (runLen digB s.data.toList), valF (s.extract 0 (runLen digB s.data.toList)).data.toList 0, 0)
  else if 1 < s.size ∧ pairB (bt s 0) (bt s 1) = true then (3, s.extract 0 2, 0, 0)
  else if markB (bt s 0) then (3, s.extract 0 1, 0, 0)
  else (0, ⟨#[]⟩, 0, 0)
def scan_first.f (s : ByteArray) : Option (Int × ByteArray × Int × Int) := if 0 < s.size ∧ s.size ≤ 140737488351232 then some (firstF s) else none
theorem scan_first.calls (s : ByteArray) (r1 : Int) (r2 : ByteArray) (r3 r4 : Int) (w : World) (hG : GOK w) (h : scan_first.f s = some (r1, r2, r3, r4)) :
    Calls Try.prog 39 #[.string s] w fun e w' => e = .returned (.agg #[.int .i64 r1, .string r2, .int .i64 r3, .int .i64 r4]) ∧ Below w.heap.size w w' := by
  unfold scan_first.f at h
  by_cases hs : 0 < s.size ∧ s.size ≤ 140737488351232
  case neg => rw [if_neg hs] at h; exact absurd h (by simp)
  rw [if_pos hs] at h
  have h := Option.some.inj h
  obtain ⟨h0, hs⟩ := hs
  unfold firstF at h
  have e0 : bt s 0 = ((s[0]'h0).toNat : Int) := bt0 s 0 h0
  rw [e0] at h
  by_cases hl : letB ((s[0]'h0).toNat : Int) = true
  · rw [if_pos hl] at h
    obtain ⟨rfl, rfl, rfl, rfl⟩ : _ ∧ _ ∧ _ ∧ _ := by simpa using h
    exact first_letter s hs h0 hl w
  rw [if_neg hl] at h
  replace hl := Bool.eq_false_iff.2 hl
  by_cases hd : digB ((s[0]'h0).toNat : Int) = true
  · rw [if_pos hd] at h
    simp only [Prod.mk.injEq] at h
    obtain ⟨rfl, rfl, rfl, rfl⟩ := h
    exact first_digit s hs h0 hl hd _ (fun W => value_any _ (by simp; omega) (valF_run_digits s) W) w
  rw [if_neg hd] at h
  replace hd := Bool.eq_false_iff.2 hd
  by_cases hp : 1 < s.size ∧ pairB ((s[0]'h0).toNat : Int) (bt s 1) = true
  · rw [if_pos hp] at h
    simp only [Prod.mk.injEq] at h
    obtain ⟨rfl, rfl, rfl, rfl⟩ := h
    have e1 : bt s 1 = ((s[1]'hp.1).toNat : Int) := bt0 s 1 hp.1
    exact first_pair s hp.1 hl hd (by rw [← e1]; exact hp.2) w hG
  rw [if_neg hp] at h
  have hp' : ∀ h1 : 1 < s.size, pairB ((s[0]'h0).toNat : Int) ((s[1]'h1).toNat : Int) = false := by
    intro h1
    have e1 : bt s 1 = ((s[1]'h1).toNat : Int) := bt0 s 1 h1
    rw [e1] at hp
    exact Bool.eq_false_iff.2 (fun h => hp ⟨h1, h⟩)
  by_cases hm : markB ((s[0]'h0).toNat : Int) = true
  · rw [if_pos hm] at h
    simp only [Prod.mk.injEq] at h
    obtain ⟨rfl, rfl, rfl, rfl⟩ := h
    exact first_mark s h0 hl hd hp' hm w hG
  rw [if_neg hm] at h
  replace hm := Bool.eq_false_iff.2 hm
  simp only [Prod.mk.injEq] at h
  obtain ⟨rfl, rfl, rfl, rfl⟩ := h
  exact first_none s h0 hl hd hp' hm w hG
end Go.Proofs.Ytblfcmjcdclijaa.QS
