/- The second reading's table for this seat: the functions that are known by contracts. -/
import Derived.Test.YtikihijfhgbffaaGreatDoorR5
import Derived.Test.YtikihijfhgbffaaGreatDoorRCe
import Derived.Test.YtikihijfhgbffaaGreatDoorRIp
import Derived.Lib.ItoaNum
import Derived.Lib.IndexMore
set_option linter.unusedVariables false
set_option linter.unusedSimpArgs false
set_option linter.unusedVariables false
set_option linter.unusedSimpArgs false
set_option maxRecDepth 100000
namespace Go.RR
/-- kids behind a text -/
def catB (b : List UInt8) (kids : List Int) : List UInt8 := kids.foldl (fun b k => b ++ (32 :: Go.Lib.itoa k)) b
/-- a node as a text -/
def textB (kind pick : Int) (kids : List Int) : List UInt8 := catB (Go.Lib.itoa kind ++ [32] ++ Go.Lib.itoa pick) kids
def i64B (n : Int) : Bool := decide (-9223372036854775808 ≤ n) && decide (n ≤ 9223372036854775807)
def s_text : List V → Option V
 | [.agg [.int .i64 k, .int .i64 p, .sl 1 xs]] => match ints xs with
  | some l => if i64B k && i64B p && l.all i64B && decide (l.length ≤ 1000000) then some (.str (textB k p l)) else none
  | none => none
 | _ => none
end Go.RR
namespace Go.RR.M
open Go Go.RR
def S (f : Nat) (a : List V) : Option V :=
 if f = n_slices_Clone_sapi_Span_api_Span then s_clone 2 16 a
 else if f = n_stringslite_Index then (match a with
  | [.str s, .str sub] => if s.length < 4294967281 then some (.int .i64 (Go.Lib.index s sub)) else none
  | _ => none)
 else if f = n_math_bits_Mul64 then (match a with
  | [.int .u64 x, .int .u64 y] => if 0 ≤ x ∧ x < 18446744073709551616 ∧ 0 ≤ y ∧ y < 18446744073709551616 then some (.tup [.int .u64 (x * y / 18446744073709551616), .int .u64 (x * y % 18446744073709551616)]) else none
  | _ => none)
 else if f = n_tree_text then s_text a
 else none
def H (f : Nat) (a : List V) (h : List Ob) : Option (Out × List Ob) :=
 if f = n_slices_Sort_sint_int then sortH a h
 else if f = n_slices_Compact_sint_int then compH a h
 else if f = n_slices_Clone_sint_int then cloneE 1 8 a h
 else none
def C : Cx := ⟨T, S, H⟩
theorem CT {f : Nat} {F : F} (h : T f = some F) : C.T f = some F := h
end Go.RR.M
set_option linter.unusedVariables false
set_option linter.unusedSimpArgs false
set_option maxRecDepth 100000
namespace Go.RR.M
open Go Go.RR
theorem spans_Right_loop (l : List Sp) (hl : l.length ≤ 4611686018427387904) : ∀ (d i : Nat) (p : Option Int) (h : List Ob), i + d = l.length → (∀ (hi : 0 < i) (hi' : i - 1 < l.length), p = some l[i - 1].hi ∧ -1048576 ≤ l[i - 1].hi ∧ l[i - 1].hi ≤ 1048576) → (i = 0 → p = none) →
  ∃ fr' h', evw C y0 i_spans_Right_l0 [(0, spsV l), (5, spsV l), (6, .int .i64 l.length), (7, .int .i64 i)] h =
   some (if spR p (l.drop i) = true then (.ext 0, fr', h') else (.ret, [(2, .bool false)], h')) := by
 intro d
 induction d with
 | zero =>
  intro i p h hi hp h0
  have : i = l.length := by omega
  subst this
  rw [r_spans_Right_0, List.drop_length]
  refine ⟨[(0, spsV l), (5, spsV l), (6, .int .i64 l.length), (7, .int .i64 l.length), (8, .bool false)], h, ?_⟩
  simp [b_spans_Right_0, spR, spsV]
 | succ d ih =>
  intro i p h hi hp h0
  have hlt : i < l.length := by omega
  have hw := wrap_succ hlt (by omega)
  rw [r_spans_Right_0, List.drop_eq_getElem_cons hlt]
  simp only [spR]
  by_cases c1 : l[i].hi < l[i].lo
  ·have c1' : ¬ (l[i].lo ≤ l[i].hi) := by omega
   exact ⟨[], h ++ [.row 2 [spV l[i]]], by simp [b_spans_Right_0, spsV, spV, hlt, c1, c1']⟩
  have c1' : l[i].lo ≤ l[i].hi := by omega
  by_cases c2 : l[i].lo < -1048576
  ·have c2' : ¬ (-1048576 ≤ l[i].lo) := by omega
   exact ⟨[], h ++ [.row 2 [spV l[i]]], by simp [b_spans_Right_0, spsV, spV, hlt, c1, c1', c2, c2']⟩
  have c2' : -1048576 ≤ l[i].lo := by omega
  by_cases c3 : 1048576 < l[i].hi
  ·have c3' : ¬ (l[i].hi ≤ 1048576) := by omega
   exact ⟨[], h ++ [.row 2 [spV l[i]]], by simp [b_spans_Right_0, spsV, spV, hlt, c1, c1', c2, c2', c3, c3']⟩
  have c3' : l[i].hi ≤ 1048576 := by omega
  obtain ⟨fr', h', ih⟩ := ih (i + 1) (some l[i].hi) (h ++ [.row 2 [spV l[i]]]) (by omega) (fun _ _ => ⟨by simp, by simp; omega, by simpa using c3'⟩) (by omega)
  simp only [Int.natCast_add, Int.cast_ofNat_Int, spsV, spV] at ih
  by_cases c4 : 0 < i
  ·have hlt' : i - 1 < l.length := by omega
   obtain ⟨hp1, hp2, hp3⟩ := hp c4 hlt'
   subst hp1
   have w1 : IntKind.i64.wrap (l[i - 1].hi + 1) = l[i - 1].hi + 1 := wrap64 (by omega) (by omega)
   have w2 : IntKind.i64.wrap ((i : Int) - 1) = ((i - 1 : Nat) : Int) := by rw [wrap64 (by omega) (by omega)]; omega
   by_cases c5 : l[i].lo ≤ l[i - 1].hi + 1
   ·have c5' : ¬ (l[i - 1].hi + 1 < l[i].lo) := by omega
    exact ⟨[], h ++ [.row 2 [spV l[i]]], by simp [b_spans_Right_0, spsV, spV, hlt, c1, c1', c2, c2', c3, c3', c4, w1, w2, hlt', c5, c5']⟩
   ·have c5' : l[i - 1].hi + 1 < l[i].lo := by omega
    refine ⟨fr', h', ?_⟩
    simp only [c1', c2', c3', c5', decide_true, Bool.true_and, ← ih]
    simp [b_spans_Right_0, spsV, spV, hlt, c1, c1', c2, c2', c3, c3', c4, w1, w2, hlt', c5, hw]
  ·have hi0 : i = 0 := by omega
   have hp0 := h0 hi0
   subst hp0
   refine ⟨fr', h', ?_⟩
   simp only [c1', c2', c3', decide_true, Bool.true_and, ← ih]
   simp [b_spans_Right_0, spsV, spV, hlt, c1, c1', c2, c2', c3, c3', c4, hw]
theorem spans_Right (l : List Sp) (hl : l.length ≤ 4611686018427387904) (h : List Ob) : acw C n_spans_Right [spsV l] h = some (.ret (.bool (spR none l)), h) := by
 obtain ⟨fr', h', hloop⟩ := spans_Right_loop l hl l.length 0 none [] (by omega) (fun h => absurd h (by omega)) (fun _ => rfl)
 refine acw_pure (a2 := [spsV l]) (h' := h') (v := .bool (spR none l)) (CT T_spans_Right) rfl rfl ?_ rfl (by simp)
 simp only [List.drop_zero, Int.cast_ofNat_Int] at hloop
 rcases Bool.eq_false_or_eq_true (spR none l) with hb | hb
 ·simp only [hb, if_true, spsV] at hloop
  simp [runW_fin, F_spans_Right, i_spans_Right, hb, hloop, spsV]
 ·simp only [hb, Bool.false_eq_true, if_false, spsV] at hloop
  simp [runW_fin, F_spans_Right, i_spans_Right, hb, hloop, spsV]
end Go.RR.M
set_option linter.unusedVariables false
set_option linter.unusedSimpArgs false
set_option maxRecDepth 100000
namespace Go.RR
def spS : List Sp → Int
 | [] => 0
 | s :: r => (s.hi - s.lo + 1) + spS r
theorem spR_all : ∀ {l : List Sp} {p : Option Int}, spR p l = true → ∀ s ∈ l, s.lo ≤ s.hi ∧ -1048576 ≤ s.lo ∧ s.hi ≤ 1048576
 | [], _, _ => by simp
 | s :: r, p, h => by
  simp only [spR, Bool.and_eq_true, decide_eq_true_eq] at h
  intro x hx
  rcases List.mem_cons.1 hx with rfl | hx
  ·exact ⟨h.1.1.1.1, h.1.1.1.2, h.1.1.2⟩
  ·exact spR_all h.2 x hx
theorem spS_nn : ∀ {l : List Sp}, (∀ s ∈ l, s.lo ≤ s.hi ∧ -1048576 ≤ s.lo ∧ s.hi ≤ 1048576) → 0 ≤ spS l
 | [], _ => by simp [spS]
 | s :: r, h => by
  have h1 := h s (by simp)
  have h2 := spS_nn (l := r) fun x hx => h x (by simp [hx])
  simp only [spS]
  omega
theorem spS_le : ∀ {l : List Sp} {q : Int}, spR (some q) l = true → spS l ≤ 1048576 - q ∨ l = []
 | [], _, _ => .inr rfl
 | s :: r, q, h => by
  simp only [spR, Bool.and_eq_true, decide_eq_true_eq] at h
  left
  simp only [spS]
  rcases spS_le h.2 with h2 | rfl
  ·omega
  ·simp only [spS]; omega
theorem spS_top {l : List Sp} (h : spR none l = true) : 0 ≤ spS l ∧ spS l ≤ 2097153 := by
 refine ⟨spS_nn (spR_all h), ?_⟩
 cases l with
 | nil => simp [spS]
 | cons s r =>
  simp only [spR, Bool.and_eq_true, decide_eq_true_eq] at h
  simp only [spS]
  rcases spS_le h.2 with h2 | rfl
  ·omega
  ·simp only [spS]; omega
def spN (l : List Sp) : Int := if spR none l = true then spS l else 0
theorem spN_top (l : List Sp) : 0 ≤ spN l ∧ spN l ≤ 2097153 := by
 unfold spN
 split
 ·rename_i h; exact spS_top h
 ·omega
end Go.RR
namespace Go.RR.M
open Go Go.RR
theorem spans_Size_loop (l : List Sp) (hl : l.length ≤ 4611686018427387904) (hb : ∀ s ∈ l, s.lo ≤ s.hi ∧ -1048576 ≤ s.lo ∧ s.hi ≤ 1048576) : ∀ (d i : Nat) (n : Int) (h : List Ob), i + d = l.length → 0 ≤ n → n + spS (l.drop i) ≤ 2097153 →
  ∃ fr' h', evw C y0 i_spans_Size_l0 [(3, .int .i64 n), (9, spsV l), (10, .int .i64 l.length), (11, .int .i64 i)] h = some (.ext 0, fr', h') ∧ get fr' 3 = .int .i64 (n + spS (l.drop i)) := by
 intro d
 induction d with
 | zero =>
  intro i n h hi h0 hn
  have : i = l.length := by omega
  subst this
  rw [r_spans_Size_0, List.drop_length]
  exact ⟨[(3, .int .i64 n), (9, spsV l), (10, .int .i64 l.length), (11, .int .i64 l.length), (12, .bool false)], h, by simp [b_spans_Size_0, spsV], by simp [spS]⟩
 | succ d ih =>
  intro i n h hi h0 hn
  have hlt : i < l.length := by omega
  have hw := wrap_succ hlt (by omega)
  have hs := hb _ (List.getElem_mem hlt)
  have hnn := spS_nn (l := l.drop (i + 1)) fun s hs => hb s (List.mem_of_mem_drop hs)
  rw [List.drop_eq_getElem_cons hlt] at hn ⊢
  simp only [spS] at hn ⊢
  obtain ⟨fr', h', ih1, ih2⟩ := ih (i + 1) (n + (l[i].hi - l[i].lo + 1)) (h ++ [.row 2 [spV l[i]]]) (by omega) (by omega) (by omega)
  refine ⟨fr', h', ?_, by rw [ih2]; congr 1; omega⟩
  rw [r_spans_Size_0, ← ih1]
  have w1 : IntKind.i64.wrap (l[i].hi - l[i].lo) = l[i].hi - l[i].lo := wrap64 (by omega) (by omega)
  have w2 : IntKind.i64.wrap (l[i].hi - l[i].lo + 1) = l[i].hi - l[i].lo + 1 := wrap64 (by omega) (by omega)
  have w3 : IntKind.i64.wrap (n + (l[i].hi - l[i].lo + 1)) = n + (l[i].hi - l[i].lo + 1) := wrap64 (by omega) (by omega)
  simp [b_spans_Size_0, spsV, spV, hlt, hw, w1, w2, w3]
theorem spans_Size (l : List Sp) (hl : l.length ≤ 4611686018427387904) (h : List Ob) : acw C n_spans_Size [spsV l] h = some (.ret (.int .i64 (spN l)), h) := by
 have hr := spans_Right l hl
 unfold spN
 rcases Bool.eq_false_or_eq_true (spR none l) with hb | hb
 ·have ht := spS_top hb
  obtain ⟨fr', h', l1, l2⟩ := spans_Size_loop l hl (spR_all hb) l.length 0 0 [] (by omega) (by omega) (by simp; omega)
  simp only [List.drop_zero, Int.cast_ofNat_Int, Int.zero_add] at l1 l2
  refine acw_pure (h' := h') (v := .int .i64 (spS l)) (CT T_spans_Size) rfl rfl ?_ (by simp only [hb, if_true]; rfl) (by simp [hb])
  simp only [spsV] at l1 hr
  simp [runW_fin, F_spans_Size, i_spans_Size, hr, hb, l1, l2, spsV]
 ·refine acw_pure (h' := []) (v := .int .i64 0) (CT T_spans_Size) rfl rfl ?_ (by simp only [hb]; rfl) (by simp [hb])
  simp only [spsV] at hr
  simp [runW_fin, F_spans_Size, i_spans_Size, hr, hb, spsV]
theorem ref03_Right_loop (l : List Sp) (hl : l.length ≤ 4611686018427387904) : ∀ (d i : Nat) (p : Option Int), i + d = l.length → (∀ (hi : 0 < i) (hi' : i - 1 < l.length), p = some l[i - 1].hi ∧ -1048576 ≤ l[i - 1].hi ∧ l[i - 1].hi ≤ 1048576) → (i = 0 → p = none) →
  evw C y0 i_ref03_Right_l0 [(0, spsV l), (3, .int .i64 i)] [] =
   some (if spR p (l.drop i) = true then (.ext 0, [(0, spsV l), (3, .int .i64 l.length), (7, .bool false)], []) else (.ret, [(2, .bool false)], [])) := by
 intro d
 induction d with
 | zero =>
  intro i p hi hp h0
  have : i = l.length := by omega
  subst this
  rw [r_ref03_Right_0, List.drop_length]
  simp [b_ref03_Right_0, spR, spsV]
 | succ d ih =>
  intro i p hi hp h0
  have hlt : i < l.length := by omega
  have hw := wrap_succ hlt (by omega)
  rw [r_ref03_Right_0, List.drop_eq_getElem_cons hlt]
  simp only [spR]
  by_cases c2 : l[i].lo < -1048576
  ·have c2' : ¬ (-1048576 ≤ l[i].lo) := by omega
   simp [b_ref03_Right_0, spsV, spV, hlt, c2, c2']
  have c2' : -1048576 ≤ l[i].lo := by omega
  by_cases c3 : 1048576 < l[i].hi
  ·have c3' : ¬ (l[i].hi ≤ 1048576) := by omega
   simp [b_ref03_Right_0, spsV, spV, hlt, c2, c2', c3, c3']
  have c3' : l[i].hi ≤ 1048576 := by omega
  by_cases c1 : l[i].hi < l[i].lo
  ·have c1' : ¬ (l[i].lo ≤ l[i].hi) := by omega
   simp [b_ref03_Right_0, spsV, spV, hlt, c1, c1', c2, c2', c3, c3']
  have c1' : l[i].lo ≤ l[i].hi := by omega
  have ih := ih (i + 1) (some l[i].hi) (by omega) (fun _ _ => ⟨by simp, by simp; omega, by simpa using c3'⟩) (by omega)
  simp only [Int.natCast_add, Int.cast_ofNat_Int, spsV, spV] at ih
  by_cases c4 : 0 < i
  ·have hlt' : i - 1 < l.length := by omega
   obtain ⟨hp1, hp2, hp3⟩ := hp c4 hlt'
   subst hp1
   have w1 : IntKind.i64.wrap (l[i].lo - l[i - 1].hi) = l[i].lo - l[i - 1].hi := wrap64 (by omega) (by omega)
   have w2 : IntKind.i64.wrap ((i : Int) - 1) = ((i - 1 : Nat) : Int) := by rw [wrap64 (by omega) (by omega)]; omega
   by_cases c5 : l[i].lo - l[i - 1].hi < 2
   ·have c5' : ¬ (l[i - 1].hi + 1 < l[i].lo) := by omega
    simp [b_ref03_Right_0, spsV, spV, hlt, c1, c1', c2, c2', c3, c3', c4, w1, w2, hlt', c5, c5']
   ·have c5' : l[i - 1].hi + 1 < l[i].lo := by omega
    simp only [c1', c2', c3', c5', decide_true, Bool.true_and, spsV, spV, ← ih]
    simp [b_ref03_Right_0, spsV, spV, hlt, c1, c1', c2, c2', c3, c3', c4, w1, w2, hlt', c5, hw]
  ·have hi0 : i = 0 := by omega
   have hp0 := h0 hi0
   subst hp0
   simp only [c1', c2', c3', decide_true, Bool.true_and, spsV, spV, ← ih]
   simp [b_ref03_Right_0, spsV, spV, hlt, c1, c1', c2, c2', c3, c3', c4, hw]
theorem ref03_Right (l : List Sp) (hl : l.length ≤ 4611686018427387904) (h : List Ob) : acw C n_ref03_Right [spsV l] h = some (.ret (.bool (spR none l)), h) := by
 have hloop := ref03_Right_loop l hl l.length 0 none (by omega) (fun h => absurd h (by omega)) (fun _ => rfl)
 refine acw_pure (h' := []) (v := .bool (spR none l)) (CT T_ref03_Right) rfl rfl ?_ rfl (by simp)
 simp only [List.drop_zero, Int.cast_ofNat_Int] at hloop
 rcases Bool.eq_false_or_eq_true (spR none l) with hb | hb
 ·simp only [hb, if_true, spsV] at hloop
  simp [runW_fin, F_ref03_Right, i_ref03_Right, hb, hloop, spsV]
 ·simp only [hb, Bool.false_eq_true, if_false, spsV] at hloop
  simp [runW_fin, F_ref03_Right, i_ref03_Right, hb, hloop, spsV]
theorem ref03_Size_loop (l : List Sp) (hl : l.length ≤ 4611686018427387904) (hr : spR none l = true) (hb : ∀ s ∈ l, s.lo ≤ s.hi ∧ -1048576 ≤ s.lo ∧ s.hi ≤ 1048576) : ∀ (d i : Nat) (n : Int), i + d = l.length → 0 ≤ n → n + spS (l.drop i) ≤ 2097153 →
  ∃ fr', evw C y0 i_ref03_Size_l0 [(0, spsV l), (3, .int .i64 n), (4, .int .i64 i)] [] = some (.ext 0, fr', []) ∧ get fr' 3 = .int .i64 (n + spS (l.drop i)) := by
 intro d
 have hright := ref03_Right l hl
 rw [hr] at hright
 induction d with
 | zero =>
  intro i n hi h0 hn
  have : i = l.length := by omega
  subst this
  rw [r_ref03_Size_0, List.drop_length]
  exact ⟨[(0, spsV l), (3, .int .i64 n), (4, .int .i64 l.length), (12, .bool false)], by simp [b_ref03_Size_0, spsV], by simp [spS]⟩
 | succ d ih =>
  intro i n hi h0 hn
  have hlt : i < l.length := by omega
  have hw := wrap_succ hlt (by omega)
  have hs := hb _ (List.getElem_mem hlt)
  have hnn := spS_nn (l := l.drop (i + 1)) fun s hs => hb s (List.mem_of_mem_drop hs)
  rw [List.drop_eq_getElem_cons hlt] at hn ⊢
  simp only [spS] at hn ⊢
  obtain ⟨fr', ih1, ih2⟩ := ih (i + 1) (n + (l[i].hi - l[i].lo + 1)) (by omega) (by omega) (by omega)
  refine ⟨fr', ?_, by rw [ih2]; congr 1; omega⟩
  rw [r_ref03_Size_0, ← ih1]
  have w1 : IntKind.i64.wrap (n + l[i].hi) = n + l[i].hi := wrap64 (by omega) (by omega)
  have w2 : IntKind.i64.wrap (n + l[i].hi + 1) = n + l[i].hi + 1 := wrap64 (by omega) (by omega)
  have w3 : IntKind.i64.wrap (n + l[i].hi + 1 - l[i].lo) = n + (l[i].hi - l[i].lo + 1) := by rw [wrap64 (by omega) (by omega)]; omega
  simp only [spsV] at hright
  simp [b_ref03_Size_0, spsV, spV, hlt, hw, w1, w2, w3, hright]
theorem ref03_Size (l : List Sp) (hl : l.length ≤ 4611686018427387904) (h : List Ob) : acw C n_ref03_Size [spsV l] h = some (.ret (.int .i64 (spN l)), h) := by
 have hr := ref03_Right l hl
 unfold spN
 rcases Bool.eq_false_or_eq_true (spR none l) with hb | hb
 ·have ht := spS_top hb
  obtain ⟨fr', l1, l2⟩ := ref03_Size_loop l hl hb (spR_all hb) l.length 0 0 (by omega) (by omega) (by simp; omega)
  simp only [List.drop_zero, Int.cast_ofNat_Int, Int.zero_add] at l1 l2
  refine acw_pure (h' := []) (v := .int .i64 (spS l)) (CT T_ref03_Size) rfl rfl ?_ (by simp only [hb, if_true]; rfl) (by simp [hb])
  simp only [spsV] at l1 hr
  simp [runW_fin, F_ref03_Size, i_ref03_Size, hr, hb, l1, l2, spsV]
 ·refine acw_pure (h' := []) (v := .int .i64 0) (CT T_ref03_Size) rfl rfl ?_ (by simp only [hb]; rfl) (by simp [hb])
  simp only [spsV] at hr
  by_cases hn : 0 < l.length
  ·have hl0 : evw C y0 i_ref03_Size_l0 [(0, .sl 2 (l.map spV)), (3, .int .i64 0), (4, .int .i64 0)] [] = some (.ext 0, [(0, .sl 2 (l.map spV)), (3, .int .i64 0), (4, .int .i64 0), (12, .bool false)], []) := by
    rw [r_ref03_Size_0]
    simp [b_ref03_Size_0, hr, hb, hn]
   simp [runW_fin, F_ref03_Size, i_ref03_Size, hl0, spsV]
  ·have : l = [] := List.length_eq_zero_iff.1 (by omega)
   subst this
   simp [spR] at hb
end Go.RR.M
set_option linter.unusedVariables false
set_option linter.unusedSimpArgs false
set_option maxRecDepth 100000
namespace Go.RR
def withinB (most : Int) (l : List Int) : Bool := l.all fun n => decide (-most ≤ n) && decide (n ≤ most)
theorem within_any (most : Int) (l : List Int) : (!(l.any fun n => decide (n < -most) || decide (most < n))) = withinB most l := by
 unfold withinB
 induction l with
 | nil => rfl
 | cons x r ih =>
  simp only [List.any_cons, List.all_cons, Bool.not_or, ih]
  congr 1
  by_cases h1 : x < -most <;> by_cases h2 : most < x <;> simp [h1, h2] <;> omega
/-- variables: numbers below, none twice -/
def vOK (vars : Int) : List Int → List Int → Bool
 | _, [] => true
 | pre, v :: r => decide (0 ≤ v) && decide (v < vars) && !(pre.any fun x => v == x) && vOK vars (pre ++ [v]) r
end Go.RR
namespace Go.RR.M
open Go Go.RR
theorem contains_int (l : List Int) (x : Int) (hl : l.length ≤ 4611686018427387904) (h : List Ob) : acw C n_slices_Contains_sint_int [intsV l, iv x] h = some (.ret (.bool (l.any fun y => x == y)), h) :=
 contains (C := C) (n := n_slices_Index_sint_int) (CT T_slices_Index_sint_int) (CT T_slices_Contains_sint_int) (enc := V.int .i64) (q := fun a b => a == b) cmp_int l x hl (fun _ _ => elt_int) Fz.int h
theorem within_1 (n most : Int) (h0 : 0 ≤ most) (h1 : most ≤ 9223372036854775807) (h : List Ob) : acw C n_model_within_1 [iv n, .pin (iv most) 0] h = some (.ret (.bool (decide (n < -most) || decide (most < n))), h) := by
 refine acw_pure (h' := []) (v := .bool (decide (n < -most) || decide (most < n))) (CT T_model_within_1) rfl rfl ?_ rfl (by simp)
 have w1 : IntKind.i64.wrap (0 - most) = -most := by rw [wrap64 (by omega) (by omega)]; omega
 have w2 : IntKind.i64.wrap (-most) = -most := wrap64 (by omega) (by omega)
 by_cases c1 : n < -most <;> simp [runW_fin, F_model_within_1, i_model_within_1, w1, w2, c1]
theorem within (l : List Int) (most : Int) (h0 : 0 ≤ most) (h1 : most ≤ 9223372036854775807) (hl : l.length ≤ 4611686018427387904) (h : List Ob) : acw C n_model_within [intsV l, iv most] h = some (.ret (.bool (withinB most l)), h) := by
 refine acw_pure (h' := [.row 1 [iv most]]) (v := .bool (withinB most l)) (CT T_model_within) rfl rfl ?_ rfl (by simp)
 have c1 := containsFunc (C := C) (m := n_slices_ContainsFunc_sint_int) (n := n_slices_IndexFunc_sint_int) (enc := V.int .i64) (CT T_slices_IndexFunc_sint_int) (CT T_slices_ContainsFunc_sint_int) (g := n_model_within_1) (first := []) (cap := [.pin (iv most) 0]) l hl (fun _ _ => elt_int) (f' := .fn (.func n_model_within_1) [] [.ptr 0 0 0 1]) (h := [.row 1 [iv most]]) rfl (fun _ => rfl) (p := fun n => decide (n < -most) || decide (most < n)) (fun a _ => within_1 a most h0 h1 [])
 rw [← within_any]
 simp [runW_fin, F_model_within, i_model_within, c1]
theorem ref08_all_loop (l : List Int) (most : Int) (h0 : 0 ≤ most) (h1 : most ≤ 9223372036854775807) (hl : l.length ≤ 4611686018427387904) :
  evw C y0 i_ref08_all_l0 [(0, intsV l), (1, iv most), (5, iv 0)] [] = some (if withinB most l = true then (.ext 0, [(0, intsV l), (1, iv most), (5, iv l.length), (9, .bool false)], []) else (.ret, [(4, .bool false)], [])) := by
 have w1 : IntKind.i64.wrap (0 - most) = -most := by rw [wrap64 (by omega) (by omega)]; omega
 have w2 : IntKind.i64.wrap (-most) = -most := wrap64 (by omega) (by omega)
 refine loop_all (C := C) (b := b_ref08_all_0) l (fun i => [(0, intsV l), (1, iv most), (5, iv i)]) [] (fun n => decide (-most ≤ n) && decide (n ≤ most)) _ _ ?_ (by simp) (by simp) fun i hi => ?_
 ·simp [b_ref08_all_0]
 ·have hw := wrap_succ hi (by omega)
  by_cases c1 : l[i] < -most
  ·have c1' : ¬ (-most ≤ l[i]) := by omega
   simp [b_ref08_all_0, hi, w1, w2, hw, c1, c1']
  ·have c1' : -most ≤ l[i] := by omega
   by_cases c2 : most < l[i]
   ·have c2' : ¬ (l[i] ≤ most) := by omega
    simp [b_ref08_all_0, hi, w1, w2, hw, c1, c1', c2, c2']
   ·have c2' : l[i] ≤ most := by omega
    simp [b_ref08_all_0, hi, w1, w2, hw, c1, c1', c2, c2']
theorem ref08_all (l : List Int) (most : Int) (h0 : 0 ≤ most) (h1 : most ≤ 9223372036854775807) (hl : l.length ≤ 4611686018427387904) (h : List Ob) : acw C n_ref08_all [intsV l, iv most] h = some (.ret (.bool (withinB most l)), h) := by
 refine acw_pure (h' := []) (v := .bool (withinB most l)) (CT T_ref08_all) rfl rfl ?_ rfl (by simp)
 have hloop := ref08_all_loop l most h0 h1 hl
 rcases Bool.eq_false_or_eq_true (withinB most l) with hb | hb
 ·simp only [hb, if_true] at hloop
  simp [runW_fin, F_ref08_all, i_ref08_all, hb, hloop]
 ·simp only [hb, Bool.false_eq_true, if_false] at hloop
  simp [runW_fin, F_ref08_all, i_ref08_all, hb, hloop]
abbrev lookV (c : Con) (vars : Int) : V := .agg [iv c.kind, intsV c.vars, intsV c.coefs, iv c.rel, iv c.const, intsV c.nums, iv vars]
theorem variables_loop (c : Con) (vars : Int) (hl : c.vars.length ≤ 4611686018427387904) : ∀ (d i : Nat), i + d = c.vars.length →
  evw C y0 i_model_looker_variables_l0 [(3, .ptr 0 0 0 1), (24, intsV c.vars), (25, iv c.vars.length), (26, iv i)] [.row 7 [lookV c vars]] =
   some (if vOK vars (c.vars.take i) (c.vars.drop i) = true then (.ext 0, [(3, .ptr 0 0 0 1), (24, intsV c.vars), (25, iv c.vars.length), (26, iv c.vars.length), (27, .bool false)], [.row 7 [lookV c vars]]) else (.ret, [(6, .bool false)], [.row 7 [lookV c vars]])) := by
 intro d
 induction d with
 | zero =>
  intro i hi
  have : i = c.vars.length := by omega
  subst this
  rw [r_model_looker_variables_0, List.drop_length]
  simp [b_model_looker_variables_0, vOK]
 | succ d ih =>
  intro i hi
  have hlt : i < c.vars.length := by omega
  have hw := wrap_succ hlt (by omega)
  have ih := ih (i + 1) (by omega)
  have hc := contains_int (c.vars.take i) c.vars[i] (by rw [List.length_take]; omega)
  simp only [Int.natCast_add, Int.cast_ofNat_Int, List.take_succ_eq_append_getElem hlt] at ih
  simp only [intsV, List.map_take] at hc
  rw [r_model_looker_variables_0, List.drop_eq_getElem_cons hlt]
  simp only [vOK]
  by_cases c1 : c.vars[i] < 0
  ·have c1' : ¬ (0 ≤ c.vars[i]) := by omega
   simp [b_model_looker_variables_0, hlt, c1, c1']
  have c1' : 0 ≤ c.vars[i] := by omega
  by_cases c2 : vars ≤ c.vars[i]
  ·have c2' : ¬ (c.vars[i] < vars) := by omega
   simp [b_model_looker_variables_0, hlt, c1, c1', c2, c2']
  have c2' : c.vars[i] < vars := by omega
  have hle : i ≤ c.vars.length := by omega
  rcases Bool.eq_false_or_eq_true ((c.vars.take i).any fun x => c.vars[i] == x) with hb | hb
  ·rw [hb] at hc
   simp only [hb]
   simp [b_model_looker_variables_0, hlt, c1, c1', c2, c2', hc, hle]
  ·rw [hb] at hc
   simp only [hb, c1', c2', decide_true, Bool.true_and, Bool.not_false, ← ih]
   simp [b_model_looker_variables_0, hlt, c1, c1', c2, c2', hc, hle, hw]
def varsB (c : Con) (vars least most : Int) : Bool := decide (least ≤ c.vars.length) && decide (c.vars.length ≤ most) && vOK vars [] c.vars
theorem variables (c : Con) (vars least most : Int) (hl : c.vars.length ≤ 4611686018427387904) (h : List Ob) : acw C n_model_looker_variables [lookV c vars, iv least, iv most] h = some (.ret (.bool (varsB c vars least most)), h) := by
 refine acw_pure (h' := [.row 7 [lookV c vars]]) (v := .bool (varsB c vars least most)) (CT T_model_looker_variables) rfl rfl ?_ rfl (by simp)
 have hloop := variables_loop c vars hl c.vars.length 0 (by omega)
 simp only [List.drop_zero, List.take_zero, Int.cast_ofNat_Int] at hloop
 unfold varsB
 by_cases c1 : (c.vars.length : Int) < least
 ·have c1' : ¬ (least ≤ c.vars.length) := by omega
  simp [runW_fin, F_model_looker_variables, i_model_looker_variables, c1, c1']
 have c1' : least ≤ c.vars.length := by omega
 by_cases c2 : most < (c.vars.length : Int)
 ·have c2' : ¬ ((c.vars.length : Int) ≤ most) := by omega
  simp [runW_fin, F_model_looker_variables, i_model_looker_variables, c1, c1', c2, c2']
 have c2' : (c.vars.length : Int) ≤ most := by omega
 rcases Bool.eq_false_or_eq_true (vOK vars [] c.vars) with hb | hb
 ·simp only [hb, if_true] at hloop
  simp [runW_fin, F_model_looker_variables, i_model_looker_variables, c1, c1', c2, c2', hloop, hb]
 ·simp only [hb, Bool.false_eq_true, if_false] at hloop
  simp [runW_fin, F_model_looker_variables, i_model_looker_variables, c1, c1', c2, c2', hloop, hb]
end Go.RR.M
set_option linter.unusedVariables false
set_option linter.unusedSimpArgs false
set_option maxRecDepth 100000
namespace Go.RR.M
open Go Go.RR
def sumB (c : Con) (but : Int) : Bool := decide ((c.coefs.length : Int) = c.vars.length - but) && (withinB 1048576 c.coefs && (!(c.coefs.any fun y => (0 : Int) == y) && (decide (0 ≤ c.rel) && (decide (c.rel ≤ 5) && (withinB 1099511627776 [c.const] && decide (c.nums.length = 0))))))
theorem sum (c : Con) (vars but : Int) (hb0 : 0 ≤ but ∧ but ≤ 1) (hl : c.vars.length ≤ 4611686018427387904) (hl2 : c.coefs.length ≤ 4611686018427387904) (h : List Ob) : acw C n_model_looker_sum [lookV c vars, iv but] h = some (.ret (.bool (sumB c but)), h) := by
 refine acw_pure (h' := [.row 7 [lookV c vars], .row 6 [conV c]]) (v := .bool (sumB c but)) (CT T_model_looker_sum) rfl rfl ?_ rfl (by simp)
 have w1 : IntKind.i64.wrap ((c.vars.length : Int) - but) = c.vars.length - but := wrap64 (by omega) (by omega)
 have k1 := within c.coefs 1048576 (by omega) (by omega) hl2
 have k2 := contains_int c.coefs 0 hl2
 have k3 := within [c.const] 1099511627776 (by omega) (by omega) (by simp)
 have k4 : bsfL (.int .i64 0) [.int .i64 c.const] = some (intsV [c.const]) := rfl
 unfold sumB
 by_cases c1 : (c.coefs.length : Int) = c.vars.length - but
 ·rcases Bool.eq_false_or_eq_true (withinB 1048576 c.coefs) with c2 | c2 <;> rw [c2] at k1
  ·rcases Bool.eq_false_or_eq_true (c.coefs.any fun y => (0 : Int) == y) with c3 | c3 <;> rw [c3] at k2
   ·simp [runW_fin, F_model_looker_sum, i_model_looker_sum, w1, k1, k2, c1, c2, c3]
   ·by_cases c4 : 0 ≤ c.rel
    ·by_cases c5 : c.rel ≤ 5
     ·rcases Bool.eq_false_or_eq_true (withinB 1099511627776 [c.const]) with c6 | c6 <;> rw [c6] at k3
      ·by_cases c7 : c.nums.length = 0 <;> simp [runW_fin, F_model_looker_sum, i_model_looker_sum, w1, k1, k2, k3, k4, c1, c2, c3, c4, c5, c6, c7]
      ·simp [runW_fin, F_model_looker_sum, i_model_looker_sum, w1, k1, k2, k3, k4, c1, c2, c3, c4, c5, c6]
     ·simp [runW_fin, F_model_looker_sum, i_model_looker_sum, w1, k1, k2, k3, k4, c1, c2, c3, c4, c5]
    ·simp [runW_fin, F_model_looker_sum, i_model_looker_sum, w1, k1, k2, k3, k4, c1, c2, c3, c4]
  ·simp [runW_fin, F_model_looker_sum, i_model_looker_sum, w1, k1, k2, c1, c2]
 ·have c1' : ((c.coefs.length : Int) == c.vars.length - but) = false := by simpa using c1
  simp [runW_fin, F_model_looker_sum, i_model_looker_sum, w1, c1, c1']
end Go.RR.M
set_option linter.unusedVariables false
set_option linter.unusedSimpArgs false
set_option maxRecDepth 100000
namespace Go.RR.M
open Go Go.RR
def bareB (c : Con) (least most : Int) : Bool := decide (c.coefs.length = 0) && (decide (c.rel = 0) && (decide (c.const = 0) && (decide (least ≤ c.nums.length) && (decide ((c.nums.length : Int) ≤ most) && withinB 1048576 c.nums))))
theorem bare (c : Con) (vars least most : Int) (hl : c.nums.length ≤ 4611686018427387904) (h : List Ob) : acw C n_model_looker_bare [lookV c vars, iv least, iv most] h = some (.ret (.bool (bareB c least most)), h) := by
 refine acw_pure (h' := [.row 7 [lookV c vars], .row 6 [conV c]]) (v := .bool (bareB c least most)) (CT T_model_looker_bare) rfl rfl ?_ rfl (by simp)
 have k1 := within c.nums 1048576 (by omega) (by omega) hl
 unfold bareB
 by_cases c1 : c.coefs.length = 0
 ·by_cases c2 : c.rel = 0
  ·by_cases c3 : c.const = 0
   ·by_cases c4 : least ≤ c.nums.length
    ·by_cases c5 : (c.nums.length : Int) ≤ most
     ·simp [runW_fin, F_model_looker_bare, i_model_looker_bare, ieq, k1, c1, c2, c3, c4, c5]
     ·simp [runW_fin, F_model_looker_bare, i_model_looker_bare, ieq, k1, c1, c2, c3, c4, c5]
    ·simp [runW_fin, F_model_looker_bare, i_model_looker_bare, ieq, k1, c1, c2, c3, c4]
   ·simp [runW_fin, F_model_looker_bare, i_model_looker_bare, ieq, k1, c1, c2, c3]
  ·simp [runW_fin, F_model_looker_bare, i_model_looker_bare, ieq, k1, c1, c2]
 ·simp [runW_fin, F_model_looker_bare, i_model_looker_bare, ieq, k1, c1]
/-- no list is longer than a slice may be -/
def lenOK (c : Con) : Prop := c.vars.length ≤ 4611686018427387904 ∧ c.coefs.length ≤ 4611686018427387904 ∧ c.nums.length ≤ 4611686018427387904
def linearB (c : Con) (vars : Int) : Bool := varsB c vars 1 8 && sumB c 0
def productB (c : Con) (vars : Int) : Bool := varsB c vars 3 3 && bareB c 0 0
def iffB (c : Con) (vars : Int) : Bool := varsB c vars 2 9 && sumB c 1
def elementB (c : Con) (vars : Int) : Bool := varsB c vars 2 2 && bareB c 1 96
def differB (c : Con) (vars : Int) : Bool := varsB c vars 2 8 && bareB c 0 0
def tableB (c : Con) (vars : Int) : Bool := varsB c vars 1 8 && (bareB c 0 96 && decide (((c.nums.length : Int).tmod c.vars.length) = 0))
theorem linear (c : Con) (vars : Int) (hl : lenOK c) (h : List Ob) : acw C n_model_looker_linear [lookV c vars] h = some (.ret (.bool (linearB c vars)), h) := by
 refine acw_pure (h' := [.row 7 [lookV c vars]]) (v := .bool (linearB c vars)) (CT T_model_looker_linear) rfl rfl ?_ rfl (by simp)
 have k1 := variables c vars 1 8 hl.1
 have k2 := sum c vars 0 (by omega) hl.1 hl.2.1
 unfold linearB
 rcases Bool.eq_false_or_eq_true (varsB c vars 1 8) with c1 | c1 <;> rw [c1] at k1 <;> simp [runW_fin, F_model_looker_linear, i_model_looker_linear, k1, k2, c1]
theorem product (c : Con) (vars : Int) (hl : lenOK c) (h : List Ob) : acw C n_model_looker_product [lookV c vars] h = some (.ret (.bool (productB c vars)), h) := by
 refine acw_pure (h' := [.row 7 [lookV c vars]]) (v := .bool (productB c vars)) (CT T_model_looker_product) rfl rfl ?_ rfl (by simp)
 have k1 := variables c vars 3 3 hl.1
 have k2 := bare c vars 0 0 hl.2.2
 unfold productB
 rcases Bool.eq_false_or_eq_true (varsB c vars 3 3) with c1 | c1 <;> rw [c1] at k1 <;> simp [runW_fin, F_model_looker_product, i_model_looker_product, k1, k2, c1]
theorem iff (c : Con) (vars : Int) (hl : lenOK c) (h : List Ob) : acw C n_model_looker_iff [lookV c vars] h = some (.ret (.bool (iffB c vars)), h) := by
 refine acw_pure (h' := [.row 7 [lookV c vars]]) (v := .bool (iffB c vars)) (CT T_model_looker_iff) rfl rfl ?_ rfl (by simp)
 have k1 := variables c vars 2 9 hl.1
 have k2 := sum c vars 1 (by omega) hl.1 hl.2.1
 unfold iffB
 rcases Bool.eq_false_or_eq_true (varsB c vars 2 9) with c1 | c1 <;> rw [c1] at k1 <;> simp [runW_fin, F_model_looker_iff, i_model_looker_iff, k1, k2, c1]
theorem element (c : Con) (vars : Int) (hl : lenOK c) (h : List Ob) : acw C n_model_looker_element [lookV c vars] h = some (.ret (.bool (elementB c vars)), h) := by
 refine acw_pure (h' := [.row 7 [lookV c vars]]) (v := .bool (elementB c vars)) (CT T_model_looker_element) rfl rfl ?_ rfl (by simp)
 have k1 := variables c vars 2 2 hl.1
 have k2 := bare c vars 1 96 hl.2.2
 unfold elementB
 rcases Bool.eq_false_or_eq_true (varsB c vars 2 2) with c1 | c1 <;> rw [c1] at k1 <;> simp [runW_fin, F_model_looker_element, i_model_looker_element, k1, k2, c1]
theorem differ (c : Con) (vars : Int) (hl : lenOK c) (h : List Ob) : acw C n_model_looker_differ [lookV c vars] h = some (.ret (.bool (differB c vars)), h) := by
 refine acw_pure (h' := [.row 7 [lookV c vars]]) (v := .bool (differB c vars)) (CT T_model_looker_differ) rfl rfl ?_ rfl (by simp)
 have k1 := variables c vars 2 8 hl.1
 have k2 := bare c vars 0 0 hl.2.2
 unfold differB
 rcases Bool.eq_false_or_eq_true (varsB c vars 2 8) with c1 | c1 <;> rw [c1] at k1 <;> simp [runW_fin, F_model_looker_differ, i_model_looker_differ, k1, k2, c1]
theorem table (c : Con) (vars : Int) (hl : lenOK c) (h : List Ob) : acw C n_model_looker_table [lookV c vars] h = some (.ret (.bool (tableB c vars)), h) := by
 refine acw_pure (h' := [.row 7 [lookV c vars]]) (v := .bool (tableB c vars)) (CT T_model_looker_table) rfl rfl ?_ rfl (by simp)
 have k1 := variables c vars 1 8 hl.1
 have k2 := bare c vars 0 96 hl.2.2
 unfold tableB
 rcases Bool.eq_false_or_eq_true (varsB c vars 1 8) with c1 | c1 <;> rw [c1] at k1
 ·rcases Bool.eq_false_or_eq_true (bareB c 0 96) with c2 | c2 <;> rw [c2] at k2
  ·have h1 : (1 : Int) ≤ c.vars.length := by
    unfold varsB at c1
    simp only [Bool.and_eq_true, decide_eq_true_eq] at c1
    exact c1.1.1
   have h2 : ¬ (c.vars = []) := by intro e; rw [e] at h1; simp at h1
   have w1 : IntKind.i64.wrap (((c.nums.length : Int).tmod c.vars.length)) = (c.nums.length : Int).tmod c.vars.length := by
    have := hl.2.2
    have h3 : (c.nums.length : Int).tmod c.vars.length = ((c.nums.length % c.vars.length : Nat) : Int) := by rfl
    have h4 : c.nums.length % c.vars.length ≤ c.nums.length := Nat.mod_le _ _
    rw [h3]
    exact wrap64 (by omega) (by omega)
   simp [runW_fin, F_model_looker_table, i_model_looker_table, k1, k2, c1, c2, h2, w1, ieq]
  ·simp [runW_fin, F_model_looker_table, i_model_looker_table, k1, k2, c1, c2]
 ·simp [runW_fin, F_model_looker_table, i_model_looker_table, k1, c1]
end Go.RR.M
set_option linter.unusedVariables false
set_option linter.unusedSimpArgs false
set_option maxRecDepth 100000
namespace Go.RR.M
open Go Go.RR
def rightB (c : Con) (vars : Int) : Bool :=
 if c.kind = 1 then linearB c vars else if c.kind = 2 then productB c vars else if c.kind = 3 then iffB c vars else if c.kind = 4 then elementB c vars else if c.kind = 5 then differB c vars else if c.kind = 6 then tableB c vars else false
theorem right (c : Con) (vars : Int) (hl : lenOK c) (h : List Ob) : acw C n_model_Right [conV c, iv vars] h = some (.ret (.bool (rightB c vars)), h) := by
 have k1 := linear c vars hl
 have k2 := product c vars hl
 have k3 := iff c vars hl
 have k4 := element c vars hl
 have k5 := differ c vars hl
 have k6 := table c vars hl
 refine acw_ex (v := .bool (rightB c vars)) (CT T_model_Right) rfl rfl (fun _ => rfl) (by simp) ?_
 unfold rightB
 by_cases c1 : c.kind < 1
 ·have e1 : c.kind ≠ 1 := by omega
  have e2 : c.kind ≠ 2 := by omega
  have e3 : c.kind ≠ 3 := by omega
  have e4 : c.kind ≠ 4 := by omega
  have e5 : c.kind ≠ 5 := by omega
  have e6 : c.kind ≠ 6 := by omega
  have c1' : ¬ (1 ≤ c.kind) := by omega
  simp [runW_fin, F_model_Right, i_model_Right, c1', e1, e2, e3, e4, e5, e6]
 by_cases c2 : 6 < c.kind
 ·have e1 : c.kind ≠ 1 := by omega
  have e2 : c.kind ≠ 2 := by omega
  have e3 : c.kind ≠ 3 := by omega
  have e4 : c.kind ≠ 4 := by omega
  have e5 : c.kind ≠ 5 := by omega
  have e6 : c.kind ≠ 6 := by omega
  have c1' : 1 ≤ c.kind := by omega
  have c2' : ¬ (c.kind ≤ 6) := by omega
  simp [runW_fin, F_model_Right, i_model_Right, c1', c2', e1, e2, e3, e4, e5, e6]
 obtain ⟨kind, vs, cs, rel, const, nums⟩ := c
 dsimp only at c1 c2 k1 k2 k3 k4 k5 k6 ⊢
 have hk : kind = 1 ∨ kind = 2 ∨ kind = 3 ∨ kind = 4 ∨ kind = 5 ∨ kind = 6 := by omega
 rcases hk with e | e | e | e | e | e <;> subst e
 ·simp [runW_fin, F_model_Right, i_model_Right, k1]
 ·simp [runW_fin, F_model_Right, i_model_Right, k2]
 ·simp [runW_fin, F_model_Right, i_model_Right, k3]
 ·simp [runW_fin, F_model_Right, i_model_Right, k4]
 ·simp [runW_fin, F_model_Right, i_model_Right, k5]
 ·simp [runW_fin, F_model_Right, i_model_Right, k6]
end Go.RR.M
set_option linter.unusedVariables false
set_option linter.unusedSimpArgs false
set_option maxRecDepth 100000
namespace Go.RR.M
open Go Go.RR
theorem all_not_any {α : Type} (l : List α) (p : α → Bool) : (l.all fun y => !p y) = !(l.any p) := by
 induction l with
 | nil => rfl
 | cons x r ih => simp only [List.all_cons, List.any_cons, Bool.not_or, ih]
theorem rr_l0 (c : Con) (vars : Int) (hl : c.vars.length ≤ 4611686018427387904) (i : Nat) (hi : i < c.vars.length) :
  evw C y0 i_ref08_Right_l0 [(1, iv vars), (2, .ptr 0 0 0 1), (5, iv c.vars.length), (6, iv i), (7, iv 0)] [.row 6 [conV c]] =
   some (if ((c.vars.take i).any fun x => c.vars[i] == x) = false then (.ext 2, [(1, iv vars), (2, .ptr 0 0 0 1), (5, iv c.vars.length), (6, iv i), (7, iv i), (35, .bool false)], [.row 6 [conV c]]) else (.ret, [(4, .bool false)], [.row 6 [conV c]])) := by
 have hle : (c.vars.take i).length = i := by rw [List.length_take]; omega
 have := loop_all (C := C) (Y := y0) (b := b_ref08_Right_0) (c.vars.take i) (fun k => [(1, iv vars), (2, .ptr 0 0 0 1), (5, iv c.vars.length), (6, iv i), (7, iv k)]) [.row 6 [conV c]] (fun x => !(c.vars[i] == x)) (.ret, [(4, .bool false)], [.row 6 [conV c]]) (.ext 2, [(1, iv vars), (2, .ptr 0 0 0 1), (5, iv c.vars.length), (6, iv i), (7, iv i), (35, .bool false)], [.row 6 [conV c]]) (by rw [hle]; simp [b_ref08_Right_0]) (by simp) (by simp) fun k hk => by
  rw [hle] at hk
  have hlt : k < c.vars.length := by omega
  have hw := wrap_succ hlt (by omega)
  simp only [List.getElem_take]
  by_cases e : c.vars[i] = c.vars[k]
  ·have e' : c.vars[k] = c.vars[i] := e.symm
   simp [b_ref08_Right_0, hi, hk, hlt, e']
  ·have e' : ¬ (c.vars[k] = c.vars[i]) := fun h => e h.symm
   have e2 : (c.vars[k] == c.vars[i]) = false := by simpa using e'
   simp [b_ref08_Right_0, hi, hk, hlt, e, e', e2, hw]
 rw [all_not_any] at this
 simp only [Int.cast_ofNat_Int, Bool.not_eq_true'] at this
 exact this
theorem rr_l1 (c : Con) (vars : Int) (hl : c.vars.length ≤ 4611686018427387904) : ∀ (d i : Nat) (fr0 : Fr), i + d = c.vars.length →
  ∃ fr', evw C y0 i_ref08_Right_l1 [(1, iv vars), (2, .ptr 0 0 0 1), (5, iv c.vars.length), (6, iv i)] [.row 6 [conV c]] =
   some (if vOK vars (c.vars.take i) (c.vars.drop i) = true then (.ext 0, [(1, iv vars), (2, .ptr 0 0 0 1), (5, iv c.vars.length), (6, iv c.vars.length), (15, .bool false)], [.row 6 [conV c]]) else (.ret, fr', [.row 6 [conV c]])) ∧ get fr' 4 = .bool false := by
 intro d
 induction d with
 | zero =>
  intro i fr0 hi
  have : i = c.vars.length := by omega
  subst this
  rw [r_ref08_Right_1, List.drop_length]
  refine ⟨[(4, .bool false)], ?_, rfl⟩
  simp [b_ref08_Right_1, vOK]
 | succ d ih =>
  intro i fr0 hi
  have hlt : i < c.vars.length := by omega
  have hw := wrap_succ hlt (by omega)
  obtain ⟨fr', ih, hf⟩ := ih (i + 1) fr0 (by omega)
  have hc := rr_l0 c vars hl i hlt
  simp only [Int.natCast_add, Int.cast_ofNat_Int, List.take_succ_eq_append_getElem hlt] at ih
  rw [r_ref08_Right_1, List.drop_eq_getElem_cons hlt]
  simp only [vOK]
  by_cases c1 : c.vars[i] < 0
  ·have c1' : ¬ (0 ≤ c.vars[i]) := by omega
   refine ⟨[(4, .bool false)], ?_, rfl⟩
   simp [b_ref08_Right_1, hlt, c1, c1']
  have c1' : 0 ≤ c.vars[i] := by omega
  by_cases c2 : vars ≤ c.vars[i]
  ·have c2' : ¬ (c.vars[i] < vars) := by omega
   refine ⟨[(4, .bool false)], ?_, rfl⟩
   simp [b_ref08_Right_1, hlt, c1, c1', c2, c2']
  have c2' : c.vars[i] < vars := by omega
  rcases Bool.eq_false_or_eq_true ((c.vars.take i).any fun x => c.vars[i] == x) with hb | hb
  ·rw [hb] at hc
   simp only [hb]
   refine ⟨[(4, .bool false)], ?_, rfl⟩
   simp [b_ref08_Right_1, hlt, c1, c1', c2, c2', hc]
  ·rw [hb] at hc
   refine ⟨fr', ?_, hf⟩
   simp only [hb, c1', c2', decide_true, Bool.true_and, Bool.not_false, ← ih]
   simp [b_ref08_Right_1, hlt, c1, c1', c2, c2', hc, hw]
theorem rr_l2 (c : Con) (n but : Int) (hl : c.coefs.length ≤ 4611686018427387904) :
  evw C y0 i_ref08_Right_l2 [(2, .ptr 0 0 0 1), (5, iv n), (8, iv but), (9, iv 0)] [.row 6 [conV c]] =
   some (if (c.coefs.any fun y => (0 : Int) == y) = false then (.ext 4, [(2, .ptr 0 0 0 1), (5, iv n), (8, iv but), (9, iv c.coefs.length), (65, .bool false)], [.row 6 [conV c]]) else (.ret, [(4, .bool false)], [.row 6 [conV c]])) := by
 have := loop_all (C := C) (Y := y0) (b := b_ref08_Right_2) c.coefs (fun k => [(2, .ptr 0 0 0 1), (5, iv n), (8, iv but), (9, iv k)]) [.row 6 [conV c]] (fun x => !((0 : Int) == x)) (.ret, [(4, .bool false)], [.row 6 [conV c]]) (.ext 4, [(2, .ptr 0 0 0 1), (5, iv n), (8, iv but), (9, iv c.coefs.length), (65, .bool false)], [.row 6 [conV c]]) (by simp [b_ref08_Right_2]) (by simp) (by simp) fun k hk => by
  have hw := wrap_succ hk (by omega)
  by_cases e : c.coefs[k] = 0
  ·simp [b_ref08_Right_2, hk, e]
  ·have e' : ¬ (0 = c.coefs[k]) := fun h => e h.symm
   have e2 : ((0 : Int) == c.coefs[k]) = false := by simpa using e'
   simp [b_ref08_Right_2, hk, e, ieq, e', e2, hw]
 rw [all_not_any] at this
 simp only [Int.cast_ofNat_Int, Bool.not_eq_true'] at this
 exact this
end Go.RR.M
set_option linter.unusedVariables false
set_option linter.unusedSimpArgs false
set_option maxRecDepth 100000
namespace Go.RR.M
open Go Go.RR
set_option maxHeartbeats 4000000 in
theorem ref_right (c : Con) (vars : Int) (hl : lenOK c) (h : List Ob) : acw C n_ref08_Right [conV c, iv vars] h = some (.ret (.bool (rightB c vars)), h) := by
 refine acw_ex (v := .bool (rightB c vars)) (CT T_ref08_Right) rfl rfl (fun _ => rfl) (by simp) ?_
 obtain ⟨hl1, hl2, hl3⟩ := hl
 obtain ⟨fr', hloop, hf⟩ := rr_l1 c vars hl1 c.vars.length 0 [] (by omega)
 simp only [List.drop_zero, List.take_zero, Int.cast_ofNat_Int] at hloop
 have a1 := ref08_all c.coefs 1048576 (by omega) (by omega) hl2
 have a2 := ref08_all [c.const] 1099511627776 (by omega) (by omega) (by simp)
 have a3 := ref08_all c.nums 1048576 (by omega) (by omega) hl3
 have k4 : bsfL (.int .i64 0) [.int .i64 c.const] = some (intsV [c.const]) := rfl
 rcases Bool.eq_false_or_eq_true (vOK vars [] c.vars) with hb | hb
 rotate_left
 ·simp only [hb, Bool.false_eq_true, if_false] at hloop
  simp [runW_fin, F_ref08_Right, i_ref08_Right, hloop, hf, rightB, linearB, productB, iffB, elementB, differB, tableB, varsB, hb]
 simp only [hb, if_true] at hloop
 obtain ⟨kind, vs, cs, rel, const, nums⟩ := c
 dsimp only at *
 by_cases hk1 : kind = 1
 ·subst hk1
  have l2 := rr_l2 ⟨1, vs, cs, rel, const, nums⟩ vs.length 0 hl2
  have w1 : IntKind.i64.wrap ((vs.length : Int)) = (vs.length : Int) := wrap64 (by omega) (by omega)
  have hR : rightB ⟨1, vs, cs, rel, const, nums⟩ vars = (decide (1 ≤ (vs.length : Int)) && (decide ((vs.length : Int) ≤ 8) && sumB ⟨1, vs, cs, rel, const, nums⟩ 0)) := by
   simp [rightB, linearB, varsB, hb, Bool.and_assoc]
  rw [hR]
  simp only [sumB]
  rcases Bool.eq_false_or_eq_true (cs.any fun y => (0 : Int) == y) with c0 | c0 <;> simp only [c0, Bool.true_eq_false, if_false, if_true] at l2
  ·simp only [c0, Bool.not_true, Bool.false_and, Bool.and_false]
   simp [runW_fin, F_ref08_Right, i_ref08_Right, ieq, ine, hloop, w1, k4, a1, a2, l2, c0]
  simp only [c0, Bool.not_false, Bool.true_and]
  by_cases c1 : 1 ≤ (vs.length : Int)
  rotate_left
  ·simp [runW_fin, F_ref08_Right, i_ref08_Right, ieq, ine, hloop, w1, k4, a1, a2, l2, c0, c1]
  by_cases c2 : (vs.length : Int) ≤ 8
  rotate_left
  ·simp [runW_fin, F_ref08_Right, i_ref08_Right, ieq, ine, hloop, w1, k4, a1, a2, l2, c0, c1, c2]
  by_cases c3 : (cs.length : Int) = (vs.length : Int)
  rotate_left
  ·simp [runW_fin, F_ref08_Right, i_ref08_Right, ieq, ine, hloop, w1, k4, a1, a2, l2, c0, c1, c2, c3]
  rcases Bool.eq_false_or_eq_true (withinB 1048576 cs) with c4 | c4 <;> rw [c4] at a1
  rotate_left
  ·simp [runW_fin, F_ref08_Right, i_ref08_Right, ieq, ine, hloop, w1, k4, a1, a2, l2, c0, c1, c2, c3, c4]
  by_cases c5 : 0 ≤ rel
  rotate_left
  ·simp [runW_fin, F_ref08_Right, i_ref08_Right, ieq, ine, hloop, w1, k4, a1, a2, l2, c0, c1, c2, c3, c4, c5]
  by_cases c6 : rel ≤ 5
  rotate_left
  ·simp [runW_fin, F_ref08_Right, i_ref08_Right, ieq, ine, hloop, w1, k4, a1, a2, l2, c0, c1, c2, c3, c4, c5, c6]
  rcases Bool.eq_false_or_eq_true (withinB 1099511627776 [const]) with c7 | c7 <;> rw [c7] at a2
  rotate_left
  ·simp [runW_fin, F_ref08_Right, i_ref08_Right, ieq, ine, hloop, w1, k4, a1, a2, l2, c0, c1, c2, c3, c4, c5, c6, c7]
  by_cases c8 : nums.length = 0
  rotate_left
  ·simp [runW_fin, F_ref08_Right, i_ref08_Right, ieq, ine, hloop, w1, k4, a1, a2, l2, c0, c1, c2, c3, c4, c5, c6, c7, c8]
  simp [runW_fin, F_ref08_Right, i_ref08_Right, ieq, ine, hloop, w1, k4, a1, a2, l2, c0, c1, c2, c3, c4, c5, c6, c7, c8]
 by_cases hk3 : kind = 3
 ·subst hk3
  have l2 := rr_l2 ⟨3, vs, cs, rel, const, nums⟩ vs.length 1 hl2
  have w1 : IntKind.i64.wrap ((vs.length : Int) - 1) = (vs.length : Int) - 1 := wrap64 (by omega) (by omega)
  have hR : rightB ⟨3, vs, cs, rel, const, nums⟩ vars = (decide (1 ≤ (vs.length : Int) - 1) && (decide ((vs.length : Int) - 1 ≤ 8) && sumB ⟨3, vs, cs, rel, const, nums⟩ 1)) := by
   simp only [rightB, iffB, varsB, hb]
   have p1 : decide ((2 : Int) ≤ (vs.length : Int)) = decide (1 ≤ (vs.length : Int) - 1) := decide_eq_decide.2 (by omega)
   have p2 : decide ((vs.length : Int) ≤ 9) = decide ((vs.length : Int) - 1 ≤ 8) := decide_eq_decide.2 (by omega)
   simp only [p1, p2]
   simp [Bool.and_assoc]
  rw [hR]
  simp only [sumB]
  rcases Bool.eq_false_or_eq_true (cs.any fun y => (0 : Int) == y) with c0 | c0 <;> simp only [c0, Bool.true_eq_false, if_false, if_true] at l2
  ·simp only [c0, Bool.not_true, Bool.false_and, Bool.and_false]
   simp [runW_fin, F_ref08_Right, i_ref08_Right, ieq, ine, hloop, w1, k4, a1, a2, l2, c0]
  simp only [c0, Bool.not_false, Bool.true_and]
  by_cases c1 : 1 ≤ (vs.length : Int) - 1
  rotate_left
  ·simp [runW_fin, F_ref08_Right, i_ref08_Right, ieq, ine, hloop, w1, k4, a1, a2, l2, c0, c1]
  by_cases c2 : (vs.length : Int) - 1 ≤ 8
  rotate_left
  ·simp [runW_fin, F_ref08_Right, i_ref08_Right, ieq, ine, hloop, w1, k4, a1, a2, l2, c0, c1, c2]
  by_cases c3 : (cs.length : Int) = (vs.length : Int) - 1
  rotate_left
  ·simp [runW_fin, F_ref08_Right, i_ref08_Right, ieq, ine, hloop, w1, k4, a1, a2, l2, c0, c1, c2, c3]
  rcases Bool.eq_false_or_eq_true (withinB 1048576 cs) with c4 | c4 <;> rw [c4] at a1
  rotate_left
  ·simp [runW_fin, F_ref08_Right, i_ref08_Right, ieq, ine, hloop, w1, k4, a1, a2, l2, c0, c1, c2, c3, c4]
  by_cases c5 : 0 ≤ rel
  rotate_left
  ·simp [runW_fin, F_ref08_Right, i_ref08_Right, ieq, ine, hloop, w1, k4, a1, a2, l2, c0, c1, c2, c3, c4, c5]
  by_cases c6 : rel ≤ 5
  rotate_left
  ·simp [runW_fin, F_ref08_Right, i_ref08_Right, ieq, ine, hloop, w1, k4, a1, a2, l2, c0, c1, c2, c3, c4, c5, c6]
  rcases Bool.eq_false_or_eq_true (withinB 1099511627776 [const]) with c7 | c7 <;> rw [c7] at a2
  rotate_left
  ·simp [runW_fin, F_ref08_Right, i_ref08_Right, ieq, ine, hloop, w1, k4, a1, a2, l2, c0, c1, c2, c3, c4, c5, c6, c7]
  by_cases c8 : nums.length = 0
  rotate_left
  ·simp [runW_fin, F_ref08_Right, i_ref08_Right, ieq, ine, hloop, w1, k4, a1, a2, l2, c0, c1, c2, c3, c4, c5, c6, c7, c8]
  simp [runW_fin, F_ref08_Right, i_ref08_Right, ieq, ine, hloop, w1, k4, a1, a2, l2, c0, c1, c2, c3, c4, c5, c6, c7, c8]
 have hR : ∀ b1 b2 : Bool, rightB ⟨kind, vs, cs, rel, const, nums⟩ vars = (decide (cs.length = 0) && (decide (rel = 0) && (decide (const = 0) && (withinB 1048576 nums && (decide ((nums.length : Int) ≤ 96) && (if kind = 2 then decide ((vs.length : Int) = 3) && decide (nums.length = 0) else if kind = 4 then decide ((vs.length : Int) = 2) && decide (1 ≤ (nums.length : Int)) else if kind = 5 then decide (2 ≤ (vs.length : Int)) && (decide ((vs.length : Int) ≤ 8) && decide (nums.length = 0)) else if kind = 6 then decide (1 ≤ (vs.length : Int)) && (decide ((vs.length : Int) ≤ 8) && decide ((nums.length : Int).tmod vs.length = 0)) else false)))))) := by
  intro b1 b2
  unfold rightB
  simp only [hk1, hk3, if_false, productB, elementB, differB, tableB, varsB, bareB, hb, Bool.and_true]
  have p1 : decide ((nums.length : Int) ≤ 0) = decide (nums.length = 0) := decide_eq_decide.2 (by omega)
  have p0 : decide ((0 : Int) ≤ nums.length) = true := decide_eq_true (by omega)
  have p3 : (decide ((3 : Int) ≤ vs.length) && decide ((vs.length : Int) ≤ 3)) = decide ((vs.length : Int) = 3) := by
   rw [← Bool.decide_and]; exact decide_eq_decide.2 (by omega)
  have p4 : (decide ((2 : Int) ≤ vs.length) && decide ((vs.length : Int) ≤ 2)) = decide ((vs.length : Int) = 2) := by
   rw [← Bool.decide_and]; exact decide_eq_decide.2 (by omega)
  simp only [p1, p0, p3, p4, Bool.true_and]
  have q1 : nums.length = 0 → decide ((nums.length : Int) ≤ 96) = true := fun e => decide_eq_true (by omega)
  by_cases e : nums.length = 0
  ·have q2 : decide ((1 : Int) ≤ (nums.length : Int)) = false := decide_eq_false (by omega)
   simp only [e, q1 e, q2, decide_true, Bool.true_and, Bool.and_true]
   repeat' split
   all_goals simp [Bool.and_assoc, Bool.and_left_comm, Bool.and_comm]
  ·have q2 : decide (nums.length = 0) = false := decide_eq_false e
   have q3 : decide ((1 : Int) ≤ (nums.length : Int)) = true := decide_eq_true (by omega)
   simp only [q2, q3, Bool.false_and, Bool.and_false, Bool.true_and, Bool.and_true]
   repeat' split
   all_goals simp [Bool.and_assoc, Bool.and_left_comm, Bool.and_comm]
 rw [hR true true]
 by_cases c1 : cs.length = 0
 rotate_left
 ·have c1' : 0 < cs.length := by omega
  have c1'' : ¬ (cs = []) := by intro e; rw [e] at c1; simp at c1
  simp [runW_fin, F_ref08_Right, i_ref08_Right, ieq, ine, hloop, hk1, hk3, a3, c1, c1', c1'']
 by_cases c2 : rel = 0
 rotate_left
 ·simp [runW_fin, F_ref08_Right, i_ref08_Right, ieq, ine, hloop, hk1, hk3, a3, c1, c2]
 subst c2
 by_cases c3 : const = 0
 rotate_left
 ·simp [runW_fin, F_ref08_Right, i_ref08_Right, ieq, ine, hloop, hk1, hk3, a3, c1, c3]
 subst c3
 rcases Bool.eq_false_or_eq_true (withinB 1048576 nums) with c4 | c4 <;> rw [c4] at a3
 rotate_left
 ·simp [runW_fin, F_ref08_Right, i_ref08_Right, ieq, ine, hloop, hk1, hk3, a3, c1, c4]
 by_cases c5 : (nums.length : Int) ≤ 96
 rotate_left
 ·have c5' : 96 < (nums.length : Int) := by omega
  simp [runW_fin, F_ref08_Right, i_ref08_Right, ieq, ine, hloop, hk1, hk3, a3, c1, c4, c5, c5']
 have c5' : ¬ (96 < (nums.length : Int)) := by omega
 by_cases k2 : kind = 2
 ·subst k2
  by_cases d1 : (vs.length : Int) = 3
  rotate_left
  ·simp [runW_fin, F_ref08_Right, i_ref08_Right, ieq, ine, hloop, hk1, hk3, a3, c5', c1, c4, c5, d1]
  simp only [iv, d1] at hloop
  by_cases d2 : nums.length = 0
  ·simp [runW_fin, F_ref08_Right, i_ref08_Right, ieq, ine, hloop, hk1, hk3, a3, c5', c1, c4, c5, d1, d2]
  ·simp [runW_fin, F_ref08_Right, i_ref08_Right, ieq, ine, hloop, hk1, hk3, a3, c5', c1, c4, c5, d1, d2]
 by_cases k4 : kind = 4
 ·subst k4
  by_cases d1 : (vs.length : Int) = 2
  rotate_left
  ·simp [runW_fin, F_ref08_Right, i_ref08_Right, ieq, ine, hloop, hk1, hk3, a3, c5', c1, c4, c5, d1]
  simp only [iv, d1] at hloop
  by_cases d2 : 1 ≤ (nums.length : Int)
  ·simp [runW_fin, F_ref08_Right, i_ref08_Right, ieq, ine, hloop, hk1, hk3, a3, c5', c1, c4, c5, d1, d2]
  ·simp [runW_fin, F_ref08_Right, i_ref08_Right, ieq, ine, hloop, hk1, hk3, a3, c5', c1, c4, c5, d1, d2]
 by_cases k5 : kind = 5
 ·subst k5
  by_cases d1 : 2 ≤ (vs.length : Int)
  rotate_left
  ·simp [runW_fin, F_ref08_Right, i_ref08_Right, ieq, ine, hloop, hk1, hk3, a3, c5', c1, c4, c5, d1]
  by_cases d2 : (vs.length : Int) ≤ 8
  rotate_left
  ·simp [runW_fin, F_ref08_Right, i_ref08_Right, ieq, ine, hloop, hk1, hk3, a3, c5', c1, c4, c5, d1, d2]
  by_cases d3 : nums.length = 0
  ·simp [runW_fin, F_ref08_Right, i_ref08_Right, ieq, ine, hloop, hk1, hk3, a3, c5', c1, c4, c5, d1, d2, d3]
  ·simp [runW_fin, F_ref08_Right, i_ref08_Right, ieq, ine, hloop, hk1, hk3, a3, c5', c1, c4, c5, d1, d2, d3]
 by_cases k6 : kind = 6
 ·subst k6
  by_cases d1 : 1 ≤ (vs.length : Int)
  rotate_left
  ·simp [runW_fin, F_ref08_Right, i_ref08_Right, ieq, ine, hloop, hk1, hk3, a3, c5', c1, c4, c5, d1]
  by_cases d2 : (vs.length : Int) ≤ 8
  rotate_left
  ·simp [runW_fin, F_ref08_Right, i_ref08_Right, ieq, ine, hloop, hk1, hk3, a3, c5', c1, c4, c5, d1, d2]
  have h2 : ¬ (vs = []) := by intro e; rw [e] at d1; simp at d1
  have w3 : IntKind.i64.wrap (((nums.length : Int).tmod vs.length)) = (nums.length : Int).tmod vs.length := by
   have h3 : (nums.length : Int).tmod vs.length = ((nums.length % vs.length : Nat) : Int) := by rfl
   have h4 : nums.length % vs.length ≤ nums.length := Nat.mod_le _ _
   rw [h3]
   exact wrap64 (by omega) (by omega)
  by_cases d3 : (nums.length : Int).tmod vs.length = 0
  ·simp [runW_fin, F_ref08_Right, i_ref08_Right, ieq, ine, hloop, hk1, hk3, a3, c5', c1, c4, c5, d1, d2, d3, h2, w3]
  ·simp [runW_fin, F_ref08_Right, i_ref08_Right, ieq, ine, hloop, hk1, hk3, a3, c5', c1, c4, c5, d1, d2, d3, h2, w3]
 simp [runW_fin, F_ref08_Right, i_ref08_Right, ieq, ine, hloop, hk1, hk3, a3, c5', c1, c4, c5, k2, k4, k5, k6]
end Go.RR.M
set_option linter.unusedVariables false
set_option linter.unusedSimpArgs false
set_option maxRecDepth 100000
namespace Go.RR
def conOK (c : Con) : Prop := c.vars.length ≤ 150 ∧ c.coefs.length ≤ 150 ∧ c.nums.length ≤ 150
def declOK (d : Decl) : Prop := d.name.length ≤ 100 ∧ d.dom.length ≤ 150
def blkOK (b : Blk) : Prop := b.vars.length ≤ 30 ∧ b.wh.length ≤ 30 ∧ (∀ c ∈ b.wh, conOK c) ∧ ∀ d ∈ b.vars, declOK d
def modOK (m : Mod) : Prop := m.blocks.length ≤ 30 ∧ m.goal.length ≤ 30 ∧ (∀ c ∈ m.goal, conOK c) ∧ ∀ b ∈ m.blocks, blkOK b
abbrev declsV (l : List Decl) : V := .sl 2 (l.map declV)
abbrev blksV (l : List Blk) : V := .sl 3 (l.map blkV)
def varsOf (l : List Blk) : List Decl := l.flatMap (·.vars)
def endsOf (n : Int) : List Blk → List Int
 | [] => []
 | b :: r => (n + b.vars.length) :: endsOf (n + b.vars.length) r
theorem varsOf_len {l : List Blk} (h : ∀ b ∈ l, blkOK b) : (varsOf l).length ≤ 30 * l.length := by
 unfold varsOf
 induction l with
 | nil => simp
 | cons b r ih =>
  have h1 := (h b (by simp)).1
  have h2 := ih fun b hb => h b (by simp [hb])
  simp only [List.flatMap_cons, List.length_append, List.length_cons]
  omega
theorem varsOf_take {l : List Blk} {i : Nat} (hi : i < l.length) : varsOf (l.take (i + 1)) = varsOf (l.take i) ++ l[i].vars := by
 unfold varsOf
 rw [List.take_succ_eq_append_getElem hi, List.flatMap_append]
 simp
end Go.RR
namespace Go.RR.M
open Go Go.RR
theorem clone_sp (l : List Sp) (hl : l.length ≤ 150) (h : List Ob) : acw C n_slices_Clone_sapi_Span_api_Span [spsV l] h = some (.ret (spsV l), h) :=
 acw_S (a2 := [spsV l]) (v := spsV l) rfl rfl rfl (by
  have h1 : l.length * 16 ≤ 70368744177664 := by omega
  have h2 : l.length ≤ 70368744177664 := by omega
  have h3 : dataL (l.map spV) = true := dataL_all (by simp)
  simp [C, S, s_clone, h1, h2, h3]) (by simp)
theorem model_Vars_l0 (ds : List Decl) (hd : ∀ d ∈ ds, declOK d) (hn : ds.length ≤ 30) (B N J : V) : ∀ (k i : Nat) (v : V) (xs : List V) (h : List Ob), i + k = ds.length → xs.length ≤ 900 + i → Acc h v 2 xs →
  ∃ v' h', evw C y0 i_model_Vars_l0 [(3, v), (9, B), (10, N), (11, J), (16, declsV ds), (17, iv ds.length), (18, iv i)] h = some (.ext 2, [(3, v'), (9, B), (10, N), (11, J), (16, declsV ds), (17, iv ds.length), (18, iv ds.length), (19, .bool false)], h') ∧ Acc h' v' 2 (xs ++ (ds.drop i).map declV) := by
 intro k
 induction k with
 | zero =>
  intro i v xs h hi hx hA
  have : i = ds.length := by omega
  subst this
  rw [r_model_Vars_0, List.drop_length]
  refine ⟨v, h, ?_, by simpa using hA⟩
  simp [b_model_Vars_0]
 | succ k ih =>
  intro i v xs h hi hx hA
  have hlt : i < ds.length := by omega
  have hw := wrap_succ hlt (by omega)
  have hc := clone_sp ds[i].dom (hd _ (List.getElem_mem hlt)).2
  obtain ⟨v1, w, e1, e2, -⟩ := (hA.more (l := [.row 2 [declV ds[i]]])).app (b := 40) (y := .sl 2 [declV ds[i]]) (ys := [declV ds[i]]) rfl (by simp only [List.length_singleton]; omega) (by simp only [List.length_singleton]; omega)
  obtain ⟨v', h', ih1, ih2⟩ := ih (i + 1) v1 (xs ++ [declV ds[i]]) _ (by omega) (by simp; omega) e2
  refine ⟨v', h', ?_, ?_⟩
  ·rw [r_model_Vars_0]
   simp only [Int.natCast_add, Int.cast_ofNat_Int] at ih1
   have k4 : bsfL (.agg [.str [], .nsl 2]) [declV ds[i]] = some (.sl 2 [declV ds[i]]) := rfl
   simp only [List.length_append, List.length_singleton] at e1
   simp [b_model_Vars_0, hlt, hc, k4, e1, hw, ih1]
  ·rw [List.drop_eq_getElem_cons hlt]
   rw [List.append_assoc] at ih2
   exact ih2
theorem model_Vars_l1 (bs : List Blk) (hb : ∀ b ∈ bs, blkOK b) (hn : bs.length ≤ 30) : ∀ (k i : Nat) (v : V) (h : List Ob), i + k = bs.length → Acc h v 2 ((varsOf (bs.take i)).map declV) →
  ∃ v' h', evw C y0 i_model_Vars_l1 [(3, v), (9, blksV bs), (10, iv bs.length), (11, iv i)] h = some (.ext 0, [(3, v'), (9, blksV bs), (10, iv bs.length), (11, iv bs.length), (12, .bool false)], h') ∧ Acc h' v' 2 ((varsOf bs).map declV) := by
 intro k
 induction k with
 | zero =>
  intro i v h hi hA
  have : i = bs.length := by omega
  subst this
  rw [List.take_length] at hA
  rw [r_model_Vars_1]
  refine ⟨v, h, ?_, hA⟩
  simp [b_model_Vars_1]
 | succ k ih =>
  intro i v h hi hA
  have hlt : i < bs.length := by omega
  have hw := wrap_succ hlt (by omega)
  have hb' := hb _ (List.getElem_mem hlt)
  have hlen : (varsOf (bs.take i)).length ≤ 900 := by
   have := varsOf_len (l := bs.take i) fun b h => hb b (List.mem_of_mem_take h)
   rw [List.length_take] at this
   omega
  obtain ⟨v1, h1, e1, e2⟩ := model_Vars_l0 bs[i].vars hb'.2.2.2 hb'.1 (blksV bs) (iv bs.length) (iv i) bs[i].vars.length 0 v ((varsOf (bs.take i)).map declV) (h ++ [.row 3 [blkV bs[i]]]) (by omega) (by simpa using hlen) hA.more
  rw [List.drop_zero, ← List.map_append, ← varsOf_take hlt] at e2
  obtain ⟨v', h', ih1, ih2⟩ := ih (i + 1) v1 h1 (by omega) e2
  refine ⟨v', h', ?_, ih2⟩
  rw [r_model_Vars_1]
  simp only [Int.natCast_add, Int.cast_ofNat_Int] at ih1 e1
  simp [b_model_Vars_1, hlt, e1, hw, ih1]
/-- all variables -/
theorem vars (m : Mod) (hm : modOK m) (h : List Ob) : acw C n_model_Vars [modV m] h = some (.ret (declsV (varsOf m.blocks)), h) := by
 obtain ⟨v', h', e1, e2⟩ := model_Vars_l1 m.blocks hm.2.2.2 hm.1 m.blocks.length 0 (.nsl 2) [.row 2 [modV m]] (by omega) (.inl ⟨rfl, by simp [varsOf]⟩)
 refine acw_pure (h' := h') (v := v') (v' := declsV (varsOf m.blocks)) (CT T_model_Vars) rfl rfl ?_ (frz_acc 11 e2 fun x hx => ?_) (by simp)
 ·simp only [Int.cast_ofNat_Int] at e1
  simp [runW_fin, F_model_Vars, i_model_Vars, e1]
 ·obtain ⟨d, -, rfl⟩ := List.mem_map.1 hx
  exact declV_fz d _ 7
theorem model_Ends_l0 (bs : List Blk) (hb : ∀ b ∈ bs, blkOK b) (hn : bs.length ≤ 30) : ∀ (k i : Nat) (v : V) (xs : List Int) (n : Int) (h : List Ob), i + k = bs.length → xs.length = i → 0 ≤ n → n ≤ 30 * i → Acc h v 1 (xs.map (V.int .i64)) →
  ∃ v' n' h', evw C y0 i_model_Ends_l0 [(3, v), (4, iv n), (8, blksV bs), (9, iv bs.length), (10, iv i)] h = some (.ext 0, [(3, v'), (4, n'), (8, blksV bs), (9, iv bs.length), (10, iv bs.length), (11, .bool false)], h') ∧ Acc h' v' 1 ((xs ++ endsOf n (bs.drop i)).map (V.int .i64)) := by
 intro k
 induction k with
 | zero =>
  intro i v xs n h hi hx h0 h1 hA
  have : i = bs.length := by omega
  subst this
  rw [r_model_Ends_0, List.drop_length]
  refine ⟨v, iv n, h, ?_, by simpa [endsOf] using hA⟩
  simp [b_model_Ends_0]
 | succ k ih =>
  intro i v xs n h hi hx h0 h1 hA
  have hlt : i < bs.length := by omega
  have hw := wrap_succ hlt (by omega)
  have hb' := hb _ (List.getElem_mem hlt)
  have hb1 := hb'.1
  have w1 : IntKind.i64.wrap (n + bs[i].vars.length) = n + bs[i].vars.length := wrap64 (by omega) (by omega)
  obtain ⟨v1, w, e1, e2, -⟩ := (hA.more (l := [.row 3 [blkV bs[i]]])).app (b := 8) (y := .sl 1 [.int .i64 (n + bs[i].vars.length)]) (ys := [.int .i64 (n + bs[i].vars.length)]) rfl (by simp only [List.length_singleton, List.length_map]; omega) (by simp only [List.length_singleton, List.length_map]; omega)
  obtain ⟨v', n', h', ih1, ih2⟩ := ih (i + 1) v1 (xs ++ [n + bs[i].vars.length]) (n + bs[i].vars.length) _ (by omega) (by simp; omega) (by omega) (by omega) (by simpa using e2)
  refine ⟨v', n', h', ?_, ?_⟩
  ·rw [r_model_Ends_0]
   simp only [Int.natCast_add, Int.cast_ofNat_Int] at ih1
   have k4 : bsfL (.int .i64 0) [.int .i64 (n + bs[i].vars.length)] = some (.sl 1 [.int .i64 (n + bs[i].vars.length)]) := rfl
   simp only [List.length_append, List.length_singleton] at e1
   simp [b_model_Ends_0, hlt, k4, e1, hw, w1, ih1]
  ·rw [List.drop_eq_getElem_cons hlt]
   rw [List.append_assoc] at ih2
   exact ih2
/-- where blocks end -/
theorem ends (m : Mod) (hm : modOK m) (h : List Ob) : acw C n_model_Ends [modV m] h = some (.ret (intsV (endsOf 0 m.blocks)), h) := by
 obtain ⟨v', n', h', e1, e2⟩ := model_Ends_l0 m.blocks hm.2.2.2 hm.1 m.blocks.length 0 (.nsl 1) [] 0 [.row 2 [modV m]] (by omega) rfl (by omega) (by omega) (.inl ⟨rfl, rfl⟩)
 refine acw_pure (h' := h') (v := v') (v' := intsV (endsOf 0 m.blocks)) (CT T_model_Ends) rfl rfl ?_ (frz_acc 11 e2 fun x hx => ?_) (by simp)
 ·simp only [Int.cast_ofNat_Int] at e1
  simp [runW_fin, F_model_Ends, i_model_Ends, e1]
 ·obtain ⟨d, -, rfl⟩ := List.mem_map.1 hx
  rfl
end Go.RR.M
set_option linter.unusedVariables false
set_option linter.unusedSimpArgs false
set_option maxRecDepth 100000
namespace Go.RR
/-- an own slice at the heap's second place is appended to -/
theorem app_own2 {n b z : Nat} {r : Ob} {xs ys : List V} (h1 : (xs.length + ys.length) * b ≤ 70368744177664) (h2 : xs.length + ys.length ≤ 70368744177664) :
  ∃ w, appV n [r, .row z xs] z b (.own 1 0 xs.length xs.length) (.sl z ys) = some (.own 1 0 (xs ++ ys).length (xs ++ ys).length, w) ∧ wr [r, .row z xs] w = [r, .row z (xs ++ ys)] := by
 unfold appV
 by_cases hys : ys = []
 ·subst hys
  exact ⟨none, by simp [op1, src, elems, rowOf], by simp⟩
 ·refine ⟨some (1, .row z (xs ++ ys)), ?_, by simp [wr]⟩
  simp [op1, src, elems, rowOf, hys, h1, h2, comb]
theorem endsOf_len {n : Int} {l : List Blk} : (endsOf n l).length = l.length := by
 induction l generalizing n with
 | nil => rfl
 | cons b r ih => simp [endsOf, ih]
end Go.RR
namespace Go.RR.M
open Go Go.RR
theorem ref_Vars_l0 (m : Mod) (hm : modOK m) : ∀ (k i : Nat) (xs : List V), i + k = m.blocks.length → xs = (varsOf (m.blocks.take i)).map declV →
  evw C y0 i_ref08_Vars_l0 [(1, .ptr 0 0 0 1), (3, .own 1 0 xs.length xs.length), (4, iv i)] [.row 2 [modV m], .row 2 xs] = some (.ext 0, [(1, .ptr 0 0 0 1), (3, .own 1 0 (varsOf m.blocks).length (varsOf m.blocks).length), (4, iv m.blocks.length), (10, .bool false)], [.row 2 [modV m], .row 2 ((varsOf m.blocks).map declV)]) := by
 intro k
 induction k with
 | zero =>
  intro i xs hi hx
  have : i = m.blocks.length := by omega
  subst this
  rw [List.take_length] at hx
  subst hx
  rw [r_ref08_Vars_0]
  simp [b_ref08_Vars_0]
 | succ k ih =>
  intro i xs hi hx
  have hlt : i < m.blocks.length := by omega
  have hn := hm.1
  have hw := wrap_succ hlt (by omega)
  have hb' := hm.2.2.2 _ (List.getElem_mem hlt)
  have hb1 := hb'.1
  have hlen : xs.length ≤ 900 := by
   have := varsOf_len (l := m.blocks.take i) fun b h => hm.2.2.2 b (List.mem_of_mem_take h)
   rw [List.length_take] at this
   rw [hx, List.length_map]
   omega
  obtain ⟨w, e1, e2⟩ := app_own2 (n := 2) (b := 40) (z := 2) (r := .row 2 [modV m]) (xs := xs) (ys := m.blocks[i].vars.map declV) (by simp only [List.length_map]; omega) (by simp only [List.length_map]; omega)
  have ih := ih (i + 1) (xs ++ m.blocks[i].vars.map declV) (by omega) (by rw [hx, varsOf_take hlt, List.map_append])
  rw [r_ref08_Vars_0]
  simp only [Int.natCast_add, Int.cast_ofNat_Int] at ih
  rw [← ih]
  simp [b_ref08_Vars_0, hlt, e1, e2, hw]
theorem ref_vars (m : Mod) (hm : modOK m) (h : List Ob) : acw C n_ref08_Vars [modV m] h = some (.ret (declsV (varsOf m.blocks)), h) := by
 have e1 := ref_Vars_l0 m hm m.blocks.length 0 [] (by omega) (by simp [varsOf])
 refine acw_pure (h' := _) (v := .own 1 0 (varsOf m.blocks).length (varsOf m.blocks).length) (v' := declsV (varsOf m.blocks)) (CT T_ref08_Vars) rfl rfl ?_ (frz_acc (h := [.row 2 [modV m], .row 2 ((varsOf m.blocks).map declV)]) 11 (.inr ⟨1, by simp, by simp⟩) fun x hx => ?_) (by simp)
 ·simp only [Int.cast_ofNat_Int, List.length_nil] at e1
  simp [runW_fin, F_ref08_Vars, i_ref08_Vars, e1]
 ·obtain ⟨d, -, rfl⟩ := List.mem_map.1 hx
  exact declV_fz d _ 7
theorem ref_Ends_l0 (m : Mod) (hm : modOK m) : ∀ (k i : Nat) (xs : List Int) (n : Int), i + k = m.blocks.length → xs.length = i → 0 ≤ n → n ≤ 30 * i →
  ∃ n', evw C y0 i_ref08_Ends_l0 [(1, .ptr 0 0 0 1), (3, .own 1 0 xs.length xs.length), (4, iv n), (5, iv i)] [.row 2 [modV m], .row 1 (xs.map (V.int .i64))] = some (.ext 0, [(1, .ptr 0 0 0 1), (3, .own 1 0 (xs ++ endsOf n (m.blocks.drop i)).length (xs ++ endsOf n (m.blocks.drop i)).length), (4, n'), (5, iv m.blocks.length), (11, .bool false)], [.row 2 [modV m], .row 1 ((xs ++ endsOf n (m.blocks.drop i)).map (V.int .i64))]) := by
 intro k
 induction k with
 | zero =>
  intro i xs n hi hx h0 h1
  have : i = m.blocks.length := by omega
  subst this
  rw [r_ref08_Ends_0, List.drop_length]
  refine ⟨iv n, ?_⟩
  simp [b_ref08_Ends_0, endsOf]
 | succ k ih =>
  intro i xs n hi hx h0 h1
  have hlt : i < m.blocks.length := by omega
  have hn := hm.1
  have hw := wrap_succ hlt (by omega)
  have hb' := hm.2.2.2 _ (List.getElem_mem hlt)
  have hb1 := hb'.1
  have w1 : IntKind.i64.wrap (n + m.blocks[i].vars.length) = n + m.blocks[i].vars.length := wrap64 (by omega) (by omega)
  obtain ⟨w, e1, e2⟩ := app_own2 (n := 2) (b := 8) (z := 1) (r := .row 2 [modV m]) (xs := xs.map (V.int .i64)) (ys := [.int .i64 (n + m.blocks[i].vars.length)]) (by simp only [List.length_map, List.length_singleton]; omega) (by simp only [List.length_map, List.length_singleton]; omega)
  obtain ⟨n', ih⟩ := ih (i + 1) (xs ++ [n + m.blocks[i].vars.length]) (n + m.blocks[i].vars.length) (by omega) (by simp; omega) (by omega) (by omega)
  refine ⟨n', ?_⟩
  rw [r_ref08_Ends_0, List.drop_eq_getElem_cons hlt]
  have k4 : bsfL (.int .i64 0) [.int .i64 (n + m.blocks[i].vars.length)] = some (.sl 1 [.int .i64 (n + m.blocks[i].vars.length)]) := rfl
  simp only [endsOf]
  rw [List.append_assoc] at ih
  simp only [List.singleton_append] at ih
  rw [← ih]
  simp only [List.length_map] at e1
  simp [b_ref08_Ends_0, hlt, k4, e1, e2, hw, w1]
theorem ref_ends (m : Mod) (hm : modOK m) (h : List Ob) : acw C n_ref08_Ends [modV m] h = some (.ret (intsV (endsOf 0 m.blocks)), h) := by
 obtain ⟨n', e1⟩ := ref_Ends_l0 m hm m.blocks.length 0 [] 0 (by omega) rfl (by omega) (by omega)
 simp only [List.drop_zero, List.nil_append] at e1
 refine acw_pure (h' := _) (v := .own 1 0 (endsOf 0 m.blocks).length (endsOf 0 m.blocks).length) (v' := intsV (endsOf 0 m.blocks)) (CT T_ref08_Ends) rfl rfl ?_ (frz_acc (h := [.row 2 [modV m], .row 1 ((endsOf 0 m.blocks).map (V.int .i64))]) 11 (.inr ⟨1, by simp, by simp⟩) fun x hx => ?_) (by simp)
 ·simp only [Int.cast_ofNat_Int, List.length_nil, List.map_nil] at e1
  simp [runW_fin, F_ref08_Ends, i_ref08_Ends, e1]
 ·obtain ⟨d, -, rfl⟩ := List.mem_map.1 hx
  rfl
end Go.RR.M
set_option linter.unusedVariables false
set_option linter.unusedSimpArgs false
set_option maxRecDepth 100000
namespace Go.RR.M
open Go Go.RR
def isNm (n : Nat) : Bool := (97 ≤ n && n ≤ 122) || (48 ≤ n && n ≤ 57) || n == 95
def cells : List V := (List.range 256).map fun n => .bool (isNm n)
abbrev cutB : List UInt8 := [97, 98, 99, 100, 101, 102, 103, 104, 105, 106, 107, 108, 109, 110, 111, 112, 113, 114, 115, 116, 117, 118, 119, 120, 121, 122, 48, 49, 50, 51, 52, 53, 54, 55, 56, 57, 95]
theorem makeSet0 (n : Nat) (h : List Ob) : acall C (n + 60) n_strings_makeASCIISet [.str cutB] h = some (.ret (.tup [.agg cells, .bool true]), h) := by kernel_rfl
theorem makeSet (h : List Ob) : acw C n_strings_makeASCIISet [.str cutB] h = some (.ret (.tup [.agg cells, .bool true]), h) := acall_acw 60 _ _ _ _ (makeSet0 0 h)
theorem cells_get (b : UInt8) : cells[b.toNat]? = some (.bool (isNm b.toNat)) := by
 have : b.toNat < 256 := b.toNat_lt
 simp [cells, this]
theorem cells_len : cells.length = 256 := by simp [cells]
theorem set_contains (b : UInt8) (h : List Ob) : acw C n_strings_asciiSet_contains [.pin (.agg cells) 0, .int .u8 b.toNat] h = some (.ret (.bool (isNm b.toNat)), h) := by
 refine acw_pure (h' := []) (v := .bool (isNm b.toNat)) (CT T_strings_asciiSet_contains) rfl rfl ?_ rfl (by simp)
 have := cells_get b
 have hb : (b.toNat : Int) < 256 := by have := b.toNat_lt; omega
 simp [hb, runW_fin, F_strings_asciiSet_contains, i_strings_asciiSet_contains, this]
def pNm (b : UInt8) : Bool := isNm b.toNat
def trR (s : List UInt8) : List UInt8 := (s.reverse.dropWhile pNm).reverse
def trL (s : List UInt8) : List UInt8 := s.dropWhile pNm
theorem trR_snoc {s : List UInt8} {b : UInt8} : trR (s ++ [b]) = if pNm b = true then trR s else s ++ [b] := by
 unfold trR
 rw [List.reverse_append, List.reverse_singleton, List.singleton_append, List.dropWhile_cons]
 split <;> simp
theorem trR_loop : ∀ (n : Nat) (s : List UInt8) (h : List Ob), s.length = n → n ≤ 4611686018427387904 → ∃ fr', evw C y0 i_strings_trimRightASCII_l0 [(0, .str s), (1, .pin (.agg cells) 0)] h = some (.ext 0, fr', h) ∧ get fr' 0 = .str (trR s) := by
 intro n
 induction n with
 | zero =>
  intro s h hs hn
  have : s = [] := List.length_eq_zero_iff.1 hs
  subst this
  refine ⟨[(0, .str []), (1, .pin (.agg cells) 0), (7, .bool false)], ?_, rfl⟩
  rw [r_strings_trimRightASCII_0]
  simp [b_strings_trimRightASCII_0]
 | succ n ih =>
  intro s h hs hn
  obtain ⟨t, b, rfl⟩ : ∃ t b, s = t ++ [b] := ⟨s.dropLast, s.getLast (by intro e; subst e; simp at hs), (List.dropLast_concat_getLast _).symm⟩
  simp only [List.length_append, List.length_singleton] at hs
  have hw : IntKind.i64.wrap (((t.length : Int) + 1) - 1) = (t.length : Int) := by rw [wrap64 (by omega) (by omega)]; omega
  have hw' : IntKind.i64.wrap (t.length : Int) = (t.length : Int) := wrap64 (by omega) (by omega)
  have hp : (0 : Int) < (t.length : Int) + 1 := by omega
  have hq : (t.length : Int) ≤ (t.length : Int) + 1 := by omega
  have hc := set_contains b
  rw [r_strings_trimRightASCII_0, trR_snoc]
  by_cases e : pNm b = true
  ·obtain ⟨fr', ih1, ih2⟩ := ih t h (by omega) (by omega)
   rw [show isNm b.toNat = true from e] at hc
   refine ⟨fr', ?_, by rw [if_pos e]; exact ih2⟩
   simp [b_strings_trimRightASCII_0, hw, hw', hp, hq, hc, ih1]
  ·rw [show isNm b.toNat = false from Bool.eq_false_iff.2 e] at hc
   rw [if_neg e]
   refine ⟨[(0, .str (t ++ [b])), (1, .pin (.agg cells) 0), (15, .bool true)], ?_, rfl⟩
   simp [b_strings_trimRightASCII_0, hw, hw', hp, hc]
theorem trL_loop : ∀ (s : List UInt8) (h : List Ob), s.length ≤ 4611686018427387904 → ∃ fr', evw C y0 i_strings_trimLeftASCII_l0 [(0, .str s), (1, .pin (.agg cells) 0)] h = some (.ext 0, fr', h) ∧ get fr' 0 = .str (trL s) := by
 intro s
 induction s with
 | nil =>
  intro h hn
  refine ⟨[(0, .str []), (1, .pin (.agg cells) 0), (7, .bool false)], ?_, rfl⟩
  rw [r_strings_trimLeftASCII_0]
  simp [b_strings_trimLeftASCII_0]
 | cons b t ih =>
  intro h hn
  simp only [List.length_cons] at hn
  have hp : (0 : Int) < (t.length : Int) + 1 := by omega
  have hq : (1 : Int) ≤ (t.length : Int) + 1 := by omega
  have hc := set_contains b
  rw [r_strings_trimLeftASCII_0]
  by_cases e : pNm b = true
  ·obtain ⟨fr', ih1, ih2⟩ := ih h (by omega)
   rw [show isNm b.toNat = true from e] at hc
   refine ⟨fr', ?_, by rw [show trL (b :: t) = trL t by unfold trL; rw [List.dropWhile_cons, if_pos e]]; exact ih2⟩
   simp [b_strings_trimLeftASCII_0, hp, hq, hc, ih1]
  ·rw [show isNm b.toNat = false from Bool.eq_false_iff.2 e] at hc
   rw [show trL (b :: t) = b :: t by unfold trL; rw [List.dropWhile_cons, if_neg e]]
   refine ⟨[(0, .str (b :: t)), (1, .pin (.agg cells) 0), (12, .bool true)], ?_, rfl⟩
   simp [b_strings_trimLeftASCII_0, hp, hc]
theorem frz_set (s : List UInt8) : frzL [.row 256 [.agg cells]] [.str s, .ptr 0 0 0 1] = some [.str s, .pin (.agg cells) 0] := by kernel_rfl
theorem trimR (s : List UInt8) (hs : s.length ≤ 4611686018427387904) : acw C n_strings_trimRightASCII [.str s, .ptr 0 0 0 1] [.row 256 [.agg cells]] = some (.ret (.str (trR s)), [.row 256 [.agg cells]]) := by
 obtain ⟨fr', e1, e2⟩ := trR_loop s.length s [] rfl hs
 refine acw_pure (h' := []) (v := .str (trR s)) (CT T_strings_trimRightASCII) rfl (frz_set s) ?_ rfl (by simp)
 simp [runW_fin, F_strings_trimRightASCII, i_strings_trimRightASCII, e1, e2]
theorem trimL (s : List UInt8) (hs : s.length ≤ 4611686018427387904) : acw C n_strings_trimLeftASCII [.str s, .ptr 0 0 0 1] [.row 256 [.agg cells]] = some (.ret (.str (trL s)), [.row 256 [.agg cells]]) := by
 obtain ⟨fr', e1, e2⟩ := trL_loop s [] hs
 refine acw_pure (h' := []) (v := .str (trL s)) (CT T_strings_trimLeftASCII) rfl (frz_set s) ?_ rfl (by simp)
 simp [runW_fin, F_strings_trimLeftASCII, i_strings_trimLeftASCII, e1, e2]
theorem trR_len (s : List UInt8) : (trR s).length ≤ s.length := by
 unfold trR
 rw [List.length_reverse]
 exact Nat.le_trans (List.dropWhile_sublist _).length_le (by simp)
theorem trim (s : List UInt8) (hs : s.length ≤ 4611686018427387904) (h0 : s ≠ []) (h : List Ob) : acw C n_strings_Trim [.str s, .str cutB] h = some (.ret (.str (trL (trR s))), h) := by
 have e1 := trimR s hs
 have e2 := trimL (trR s) (Nat.le_trans (trR_len s) hs)
 have e3 := makeSet
 refine acw_pure (h' := [.row 256 [.agg cells]]) (v := .str (trL (trR s))) (CT T_strings_Trim) rfl rfl ?_ rfl (by simp)
 have hE : s.isEmpty = false := by cases s <;> first | contradiction | rfl
 simp [runW_fin, F_strings_Trim, i_strings_Trim, e1, e2, e3, h0, hE, cells_len]
end Go.RR.M
set_option linter.unusedVariables false
set_option linter.unusedSimpArgs false
set_option maxRecDepth 100000
namespace Go.RR.M
open Go Go.RR
abbrev wordsB : List (List UInt8) := [[101, 120, 105, 115, 116, 115], [102, 111, 114, 97, 108, 108], [105, 110], [119, 104, 101, 114, 101], [97, 110, 100], [103, 111, 97, 108], [116, 114, 117, 101], [112, 114, 111, 100, 117, 99, 116], [105, 102, 102], [101, 108, 101, 109, 101, 110, 116], [100, 105, 102, 102, 101, 114, 101, 110, 116], [116, 97, 98, 108, 101]]
abbrev textB : List UInt8 := [32, 101, 120, 105, 115, 116, 115, 32, 102, 111, 114, 97, 108, 108, 32, 105, 110, 32, 119, 104, 101, 114, 101, 32, 97, 110, 100, 32, 103, 111, 97, 108, 32, 116, 114, 117, 101, 32, 112, 114, 111, 100, 117, 99, 116, 32, 105, 102, 102, 32, 101, 108, 101, 109, 101, 110, 116, 32, 100, 105, 102, 102, 101, 114, 101, 110, 116, 32, 116, 97, 98, 108, 101, 32]
def letB (b : UInt8) : Bool := decide (97 ≤ (b.toNat : Int)) && decide ((b.toNat : Int) ≤ 122)
def digB (b : UInt8) : Bool := decide ((b.toNat : Int) = 95) || decide (48 ≤ (b.toNat : Int)) && decide ((b.toNat : Int) ≤ 57)
def chOK : Nat → List UInt8 → Bool
 | _, [] => true
 | i, b :: r => (letB b || (decide (i ≠ 0) && digB b)) && chOK (i + 1) r
/-- which names may be -/
def nameB (s : List UInt8) : Bool := decide (1 ≤ (s.length : Int)) && decide ((s.length : Int) ≤ 12) && chOK 0 s && !(wordsB.any fun w => s == w)
theorem pNm_let (b : UInt8) : pNm b = (letB b || digB b) := by
 unfold pNm isNm letB digB
 rw [Bool.eq_iff_iff]
 simp only [Bool.or_eq_true, Bool.and_eq_true, decide_eq_true_eq, beq_iff_eq]
 omega
theorem chOK_all : ∀ {s : List UInt8} {i : Nat}, i ≠ 0 → chOK i s = s.all pNm
 | [], _, _ => rfl
 | b :: r, i, h => by simp [chOK, chOK_all (s := r) (i := i + 1) (by omega), pNm_let, h]
theorem trim_nil (s : List UInt8) : (trL (trR s) = []) ↔ s.all pNm = true := by
 have dw : ∀ l : List UInt8, l.dropWhile pNm = [] ↔ l.all pNm = true := by
  intro l
  induction l with
  | nil => simp
  | cons b r ih =>
   rw [List.dropWhile_cons]
   by_cases e : pNm b = true
   ·simp only [e, if_true, List.all_cons, Bool.true_and]; exact ih
   ·simp only [e]
    simp [List.all_cons, e]
 constructor
 ·intro h
  have h1 := (dw _).1 h
  have h2 : ∀ n (s : List UInt8), s.length = n → (trR s).all pNm = true → s.all pNm = true := by
   intro n
   induction n with
   | zero => intro s hs _; rw [List.length_eq_zero_iff.1 hs]; rfl
   | succ n ih =>
    intro s hs h
    obtain ⟨t, b, rfl⟩ : ∃ t b, s = t ++ [b] := ⟨s.dropLast, s.getLast (by intro e; subst e; simp at hs), (List.dropLast_concat_getLast _).symm⟩
    rw [trR_snoc] at h
    by_cases e : pNm b = true
    ·rw [if_pos e] at h
     have := ih t (by simpa using hs) h
     simp only [List.all_append, List.all_cons, List.all_nil, this, e, Bool.and_self]
    ·rw [if_neg e] at h; exact h
  exact h2 _ s rfl h1
 ·intro h
  have : trR s = [] := by
   unfold trR
   rw [(dw _).2 (by rw [List.all_reverse]; exact h)]
   rfl
  rw [this]; rfl
/-- a word of the text, between blanks, is one of the words -/
theorem seg {l s r : List UInt8} (h : l = s ++ 32 :: r) (hs : s.all pNm = true) : l.takeWhile (fun b => b != 32) = s := by
 subst h
 induction s with
 | nil => rfl
 | cons b t ih =>
  simp only [List.all_cons, Bool.and_eq_true] at hs
  have hb : (b != 32) = true := by
   rw [bne_iff_ne]
   intro e; subst e
   exact absurd hs.1 (by decide)
  rw [List.cons_append, List.takeWhile_cons, if_pos hb, ih hs.2]
theorem segs : ∀ p, p < 75 → textB[p]? = some 32 → ((textB.drop (p + 1)).takeWhile fun b => b != 32) = [] ∨ ((textB.drop (p + 1)).takeWhile fun b => b != 32) ∈ wordsB := by decide +kernel
theorem hits : ∀ w ∈ wordsB, 0 ≤ Go.Lib.index textB (32 :: (w ++ [32])) := by decide +kernel
theorem in_text (s : List UInt8) (hs : s.all pNm = true) (h0 : s ≠ []) : decide (0 ≤ Go.Lib.index textB (32 :: (s ++ [32]))) = wordsB.any fun w => s == w := by
 by_cases hw : s ∈ wordsB
 ·rw [decide_eq_true (hits s hw)]
  symm
  rw [List.any_eq_true]
  exact ⟨s, hw, by simp⟩
 ·have h1 : (wordsB.any fun w => s == w) = false := by
   rw [Bool.eq_false_iff]
   intro h
   obtain ⟨w, hw', e⟩ := List.any_eq_true.1 h
   rw [eq_of_beq e] at hw
   exact hw hw'
  rw [h1, decide_eq_false_iff_not]
  intro h
  rcases Go.Lib.index_spec textB (32 :: (s ++ [32])) with ⟨e, _⟩ | ⟨p, e, hp, ho, _⟩
  ·omega
  ·unfold Go.Lib.occAt at ho
   obtain ⟨r, hr⟩ := List.isPrefixOf_iff_prefix.1 ho
   have hlen : textB.length = 74 := rfl
   have hd : textB[p]? = some 32 := by
    have := congrArg (fun l => l[0]?) hr
    simp only [List.cons_append, List.getElem?_cons_zero, List.getElem?_drop, Nat.add_zero] at this
    exact this.symm
   have ht : textB.drop (p + 1) = s ++ 32 :: r := by
    have := congrArg List.tail hr
    rw [List.tail_drop] at this
    rw [← this]
    simp
   have hsg := seg ht hs
   rcases segs p (by rw [hlen] at hp; omega) hd with h2 | h2
   ·rw [hsg] at h2; exact h0 h2
   ·rw [hsg] at h2; exact hw h2
end Go.RR.M
set_option linter.unusedVariables false
set_option linter.unusedSimpArgs false
set_option maxRecDepth 100000
namespace Go.RR.M
open Go Go.RR
theorem index_S (s sub : List UInt8) (hs : s.length < 4294967281) (h : List Ob) : acw C n_stringslite_Index [.str s, .str sub] h = some (.ret (iv (Go.Lib.index s sub)), h) :=
 acw_S (a2 := [.str s, .str sub]) (v := iv (Go.Lib.index s sub)) rfl rfl rfl (by simp [C, S, hs, n_stringslite_Index, n_slices_Clone_sapi_Span_api_Span]) (by simp)
theorem str_contains (s sub : List UInt8) (hs : s.length < 4294967281) (h : List Ob) : acw C n_strings_Contains [.str s, .str sub] h = some (.ret (.bool (decide (0 ≤ Go.Lib.index s sub))), h) := by
 have k1 : ∀ h, acw C n_strings_Index [.str s, .str sub] h = some (.ret (iv (Go.Lib.index s sub)), h) := by
  intro h
  have k0 := index_S s sub hs
  refine acw_pure (h' := []) (v := iv (Go.Lib.index s sub)) (CT T_strings_Index) rfl rfl ?_ rfl (by simp)
  simp [runW_fin, F_strings_Index, i_strings_Index, k0]
 refine acw_pure (h' := []) (v := .bool (decide (0 ≤ Go.Lib.index s sub))) (CT T_strings_Contains) rfl rfl ?_ rfl (by simp)
 simp [runW_fin, F_strings_Contains, i_strings_Contains, k1]
theorem nm_first {b : UInt8} {t : List UInt8} : chOK 0 (b :: t) = (letB b && t.all pNm) := by
 simp [chOK, chOK_all (s := t) (i := 1) (by omega)]
theorem nm_all {b : UInt8} {t : List UInt8} (hb : letB b = true) : (b :: t).all pNm = t.all pNm := by
 simp [List.all_cons, pNm_let, hb]
theorem name (s : List UInt8) (hs : s.length ≤ 1000000) (h : List Ob) : acw C n_model_Name [.str s] h = some (.ret (.bool (nameB s)), h) := by
 refine acw_ex (v := .bool (nameB s)) (CT T_model_Name) rfl rfl (fun _ => rfl) (by simp) ?_
 cases s with
 | nil => simp [runW_fin, F_model_Name, i_model_Name, nameB]
 | cons b t =>
  simp only [List.length_cons] at hs
  have k1 := trim (b :: t) (by simp only [List.length_cons]; omega) (by simp)
  have k2 := str_contains textB (32 :: (b :: t ++ [32])) (by decide)
  have p1 : 1 + (t.length + 1) ≤ 4611686018427387904 := by omega
  have p2 : t.length + 1 + 1 + 1 ≤ 4611686018427387904 := by omega
  by_cases c1 : 12 < (t.length : Int) + 1
  ·have c1' : ¬ ((t.length : Int) + 1 ≤ 12) := by omega
   simp [runW_fin, F_model_Name, i_model_Name, nameB, c1, c1']
  have c1' : (t.length : Int) + 1 ≤ 12 := by omega
  have c0 : (1 : Int) ≤ (t.length : Int) + 1 := by omega
  by_cases c2 : (b.toNat : Int) < 97
  ·have : letB b = false := by unfold letB; rw [decide_eq_false (by omega)]; rfl
   simp [runW_fin, F_model_Name, i_model_Name, nameB, nm_first, this, c1, c1', c2]
  by_cases c3 : 122 < (b.toNat : Int)
  ·have : letB b = false := by unfold letB; rw [decide_eq_false (show ¬ ((b.toNat : Int) ≤ 122) by omega), Bool.and_false]
   simp [runW_fin, F_model_Name, i_model_Name, nameB, nm_first, this, c1, c1', c2, c3]
  have hb : letB b = true := by unfold letB; rw [decide_eq_true (by omega), decide_eq_true (by omega)]; rfl
  have hn : nameB (b :: t) = (t.all pNm && !(wordsB.any fun w => (b :: t) == w)) := by
   unfold nameB
   rw [nm_first, hb]
   simp only [List.length_cons, Int.natCast_add, Int.cast_ofNat_Int, c0, c1', decide_true, Bool.true_and]
  rw [hn]
  rcases Bool.eq_false_or_eq_true (t.all pNm) with ha | ha
  ·have hi := in_text (b :: t) (by rw [nm_all hb]; exact ha) (by simp)
   have hz : trL (trR (b :: t)) = [] := (trim_nil _).2 (by rw [nm_all hb]; exact ha)
   rw [hz] at k1
   rw [← hi, ha]
   rcases Bool.eq_false_or_eq_true (decide (0 ≤ Go.Lib.index textB (32 :: (b :: t ++ [32])))) with hd | hd <;> rw [hd] at k2 ⊢ <;> simp only [List.cons_append] at k2
   ·simp [runW_fin, F_model_Name, i_model_Name, c1, c2, c3, p1, p2, k2]
   ·simp [runW_fin, F_model_Name, i_model_Name, c1, c2, c3, p1, p2, k2, k1]
  ·rw [ha, Bool.false_and]
   have hz : (trL (trR (b :: t)) == []) = false := by
    rw [beq_eq_false_iff_ne]
    intro e
    have := (trim_nil _).1 e
    rw [nm_all hb, ha] at this
    exact Bool.noConfusion this
   rcases Bool.eq_false_or_eq_true (decide (0 ≤ Go.Lib.index textB (32 :: (b :: t ++ [32])))) with hd | hd <;> rw [hd] at k2 <;> simp only [List.cons_append] at k2
   ·simp [runW_fin, F_model_Name, i_model_Name, c1, c2, c3, p1, p2, k2]
   ·simp [runW_fin, F_model_Name, i_model_Name, c1, c2, c3, p1, p2, k2, k1, hz]
theorem ref_Name_l0 (ws : List (List UInt8)) (hn : ws.length = 12) (s : List UInt8) :
  evw C y0 i_ref08_Name_l0 [(0, .str s), (3, .own 0 0 12 12), (4, iv 0)] [.row 1 (ws.map V.str)] = some (if (ws.any fun w => s == w) = false then (.ext 0, [(0, .str s), (3, .own 0 0 12 12), (4, iv 12), (11, .bool false)], [.row 1 (ws.map V.str)]) else (.ret, [(2, .bool false)], [.row 1 (ws.map V.str)])) := by
 have := loop_all (C := C) (Y := y0) (b := b_ref08_Name_0) ws (fun k => [(0, .str s), (3, .own 0 0 12 12), (4, iv k)]) [.row 1 (ws.map V.str)] (fun w => !(s == w)) (.ret, [(2, .bool false)], [.row 1 (ws.map V.str)]) (.ext 0, [(0, .str s), (3, .own 0 0 12 12), (4, iv 12), (11, .bool false)], [.row 1 (ws.map V.str)]) (by simp [b_ref08_Name_0, hn]) (by simp) (by simp) fun k hk => by
  have hk' : (k : Int) < 12 := by omega
  have hk2 : k < 12 := by omega
  have hw := wrap_succ hk (by omega)
  rcases Bool.eq_false_or_eq_true (s == ws[k]) with e | e
  ·simp only [e]
   simp [b_ref08_Name_0, hk', hk, hk2, hn, e]
  ·simp only [e]
   simp [b_ref08_Name_0, hk', hk, hk2, hn, e, hw]
 rw [all_not_any] at this
 simp only [Int.cast_ofNat_Int, Bool.not_eq_true'] at this
 exact this
theorem ref_Name_l1 (s : List UInt8) (hs : s.length ≤ 1000000) (h : List Ob) : ∀ (k i : Nat), i + k = s.length →
  evw C y0 i_ref08_Name_l1 [(0, .str s), (5, iv i)] h = some (if chOK i (s.drop i) = true then (.ext 2, [(0, .str s), (5, iv s.length), (23, .bool false)], h) else (.ret, [(2, .bool false)], h)) := by
 intro k
 induction k with
 | zero =>
  intro i hi
  have : i = s.length := by omega
  subst this
  rw [r_ref08_Name_1, List.drop_length]
  simp [b_ref08_Name_1, chOK]
 | succ k ih =>
  intro i hi
  have hlt : i < s.length := by omega
  have hw := wrap_succ hlt (by omega)
  have ih := ih (i + 1) (by omega)
  simp only [Int.natCast_add, Int.cast_ofNat_Int] at ih
  rw [r_ref08_Name_1, List.drop_eq_getElem_cons hlt]
  simp only [chOK]
  by_cases c1 : 97 ≤ (s[i].toNat : Int)
  ·by_cases c2 : (s[i].toNat : Int) ≤ 122
   ·have e : letB s[i] = true := by unfold letB; rw [decide_eq_true c1, decide_eq_true c2]; rfl
    simp only [e, Bool.true_or, Bool.true_and, ← ih]
    simp [b_ref08_Name_1, hlt, c1, c2, hw]
   ·have e : letB s[i] = false := by unfold letB; rw [decide_eq_false c2, Bool.and_false]
    have e2 : digB s[i] = false := by unfold digB; rw [decide_eq_false (by omega), decide_eq_false (show ¬ ((s[i].toNat : Int) ≤ 57) by omega), Bool.and_false]; rfl
    have c3 : ¬ ((s[i].toNat : Int) = 95) := by omega
    have c4 : ¬ ((s[i].toNat : Int) < 48) := by omega
    have c5 : 57 < (s[i].toNat : Int) := by omega
    simp only [e, e2, Bool.and_false, Bool.or_false, Bool.false_and]
    by_cases c0 : i = 0
    ·subst c0
     simp [b_ref08_Name_1, hlt, c1, c2, ieq, ine]
    ·have c0' : ¬ ((i : Int) = 0) := by omega
     simp [b_ref08_Name_1, hlt, c1, c2, c0, c0', c3, c4, c5, ieq, ine]
  ·have e : letB s[i] = false := by unfold letB; rw [decide_eq_false c1]; rfl
   simp only [e, Bool.false_or]
   by_cases c0 : i = 0
   ·subst c0
    simp [b_ref08_Name_1, hlt, c1, ieq, ine]
   ·have c0' : ¬ ((i : Int) = 0) := by omega
    by_cases c3 : (s[i].toNat : Int) = 95
    ·have e2 : digB s[i] = true := by unfold digB; rw [decide_eq_true c3]; rfl
     simp only [e2, Bool.and_true, c0, ne_eq, not_false_eq_true, decide_true, Bool.true_and, ← ih]
     simp [b_ref08_Name_1, hlt, c0, c0', c3, hw, ieq, ine]
    ·by_cases c4 : (s[i].toNat : Int) < 48
     ·have e2 : digB s[i] = false := by unfold digB; rw [decide_eq_false c3, decide_eq_false (show ¬ (48 ≤ (s[i].toNat : Int)) by omega)]; rfl
      simp [b_ref08_Name_1, hlt, c1, c0, c0', c3, c4, e2, ieq, ine]
     ·by_cases c5 : 57 < (s[i].toNat : Int)
      ·have e2 : digB s[i] = false := by unfold digB; rw [decide_eq_false c3, decide_eq_false (show ¬ ((s[i].toNat : Int) ≤ 57) by omega), Bool.and_false]; rfl
       simp [b_ref08_Name_1, hlt, c1, c0, c0', c3, c4, c5, e2, ieq, ine]
      ·have e2 : digB s[i] = true := by unfold digB; rw [decide_eq_false c3, decide_eq_true (show 48 ≤ (s[i].toNat : Int) by omega), decide_eq_true (show (s[i].toNat : Int) ≤ 57 by omega)]; rfl
       simp only [e2, Bool.and_true, c0, ne_eq, not_false_eq_true, decide_true, Bool.true_and, ← ih]
       simp [b_ref08_Name_1, hlt, c1, c0, c0', c3, c4, c5, hw, ieq, ine]
theorem ref_name (s : List UInt8) (hs : s.length ≤ 1000000) (h : List Ob) : acw C n_ref08_Name [.str s] h = some (.ret (.bool (nameB s)), h) := by
 refine acw_ex (v := .bool (nameB s)) (CT T_ref08_Name) rfl rfl (fun _ => rfl) (by simp) ?_
 have e0 := ref_Name_l0 wordsB rfl s
 have e1 := ref_Name_l1 s hs [.row 1 (wordsB.map V.str)] s.length 0 (by omega)
 simp only [List.drop_zero, Int.cast_ofNat_Int] at e1
 unfold nameB
 rcases Bool.eq_false_or_eq_true (wordsB.any fun w => s == w) with a | a <;> simp only [a, Bool.true_eq_false, if_false, if_true] at e0 <;> simp only [a] <;> simp only [List.map] at e0 e1
 ·simp [runW_fin, F_ref08_Name, i_ref08_Name, e0]
 ·rcases Bool.eq_false_or_eq_true (chOK 0 s) with b | b <;> simp only [b, Bool.false_eq_true, if_false, if_true] at e1 <;> simp only [b]
  ·by_cases c1 : 1 ≤ (s.length : Int)
   ·simp [runW_fin, F_ref08_Name, i_ref08_Name, e0, e1, c1]
   ·simp [runW_fin, F_ref08_Name, i_ref08_Name, e0, e1, c1]
  ·simp [runW_fin, F_ref08_Name, i_ref08_Name, e0, e1]
end Go.RR.M
set_option linter.unusedVariables false
set_option linter.unusedSimpArgs false
set_option maxRecDepth 100000
namespace Go.RR
section
variable {k : IntKind} {n : Int} {b : Bool} {s : List UInt8} {z i j l m : Nat} {xs : List V} {c : V}
end
/-- two variables that are caught -/
theorem frz_two {h : List Ob} {f a b sa sb : Nat} {x y x' y' : V} (ha : h[a]? = some (.row sa [x])) (hb : h[b]? = some (.row sb [y])) (hx : frz h 10 x = some x') (hy : frz h 10 y = some y') : frz h fdepth (.fn (.func f) [] [.ptr a 0 0 1, .ptr b 0 0 1]) = some (.fn (.func f) [] [.pin x' 0, .pin y' 0]) := by
 have e1 : rowOf h a 1 = some (sa, [x]) := by simp [rowOf, ha]
 have e2 : rowOf h b 1 = some (sb, [y]) := by simp [rowOf, hb]
 simp [fdepth, frz, ha, hb, hx, hy]
theorem frz_oneV {h : List Ob} {f a sa : Nat} {x x' : V} (ha : h[a]? = some (.row sa [x])) (hx : frz h 10 x = some x') : frz h fdepth (.fn (.func f) [] [.ptr a 0 0 1]) = some (.fn (.func f) [] [.pin x' 0]) := by
 have e1 : rowOf h a 1 = some (sa, [x]) := by simp [rowOf, ha]
 simp [fdepth, frz, ha, hx]
theorem endsOf_last {n : Int} {l : List Blk} {k : Nat} (hk : l.length = k + 1) (h : k < (endsOf n l).length) : (endsOf n l)[k] = n + (varsOf l).length := by
 induction l generalizing n k with
 | nil => simp at hk
 | cons b r ih =>
  simp only [List.length_cons] at hk
  cases k with
  | zero =>
   have : r = [] := List.length_eq_zero_iff.1 (by omega)
   subst this
   simp [endsOf, varsOf]
  | succ k =>
   simp only [endsOf, List.getElem_cons_succ]
   rw [ih (by omega)]
   simp only [varsOf, List.flatMap_cons, List.length_append]
   omega
end Go.RR
namespace Go.RR.M
open Go Go.RR
theorem conLen {c : Con} (h : conOK c) : lenOK c := ⟨by have := h.1; omega, by have := h.2.1; omega, by have := h.2.2; omega⟩
theorem big_1 (b : Blk) (h : List Ob) : acw C n_model_big_1 [blkV b] h = some (.ret (.bool (decide (16 < (b.wh.length : Int)))), h) := by
 refine acw_ex (v := .bool (decide (16 < (b.wh.length : Int)))) (CT T_model_big_1) rfl rfl (fun _ => rfl) (by simp) ?_
 simp [runW_fin, F_model_big_1, i_model_big_1]
theorem check_1 (b : Blk) (h : List Ob) : acw C n_model_Check_1 [blkV b] h = some (.ret (.bool (decide ((b.vars.length : Int) = 0))), h) := by
 refine acw_ex (v := .bool (decide ((b.vars.length : Int) = 0))) (CT T_model_Check_1) rfl rfl (fun _ => rfl) (by simp) ?_
 simp [runW_fin, F_model_Check_1, i_model_Check_1, ieq]
theorem check_2 (d : Decl) (hd : declOK d) (h : List Ob) : acw C n_model_Check_2 [declV d] h = some (.ret (.bool (!nameB d.name)), h) := by
 have k := name d.name (by have := hd.1; omega)
 refine acw_ex (v := .bool (!nameB d.name)) (CT T_model_Check_2) rfl rfl (fun _ => rfl) (by simp) ?_
 simp [runW_fin, F_model_Check_2, i_model_Check_2, k]
theorem check_3 (x d : Decl) (h : List Ob) : acw C n_model_Check_3 [declV x, .pin (declV d) 0] h = some (.ret (.bool (x.name == d.name)), h) := by
 refine acw_ex (v := .bool (x.name == d.name)) (CT T_model_Check_3) rfl rfl (fun _ => rfl) (by simp) ?_
 simp [runW_fin, F_model_Check_3, i_model_Check_3]
def argB (d : Decl) : Bool := decide (spN d.dom < 1) || decide (64 < spN d.dom)
theorem check_4 (d : Decl) (hd : declOK d) (h : List Ob) : acw C n_model_Check_4 [declV d] h = some (.ret (.bool (argB d)), h) := by
 have k := spans_Size d.dom (by have := hd.2; omega)
 refine acw_ex (v := .bool (argB d)) (CT T_model_Check_4) rfl rfl (fun _ => rfl) (by simp) ?_
 unfold argB
 by_cases c : spN d.dom < 1 <;> simp [runW_fin, F_model_Check_4, i_model_Check_4, k, c]
def bigB (m : Mod) : Bool := decide (8 < (m.blocks.length : Int)) || (decide (16 < ((varsOf m.blocks).length : Int)) || (decide (16 < (m.goal.length : Int)) || m.blocks.any fun b => decide (16 < (b.wh.length : Int))))
theorem contains_blk (p : Blk → Bool) (g : Nat) (hp : ∀ b h, acw C g [blkV b] h = some (.ret (.bool (p b)), h)) (l : List Blk) (hl : l.length ≤ 30) (h : List Ob) : acw C n_slices_ContainsFunc_sapi_Block_api_Block [blksV l, .fn (.func g) [] []] h = some (.ret (.bool (l.any p)), h) :=
 containsFunc (C := C) (m := n_slices_ContainsFunc_sapi_Block_api_Block) (n := n_slices_IndexFunc_sapi_Block_api_Block) (enc := blkV) (CT T_slices_IndexFunc_sapi_Block_api_Block) (CT T_slices_ContainsFunc_sapi_Block_api_Block) (g := g) (first := []) (cap := []) l (by omega) (fun _ _ => blkV_elt _) (f' := .fn (.func g) [] []) (h := h) rfl (fun _ => rfl) (p := p) (fun a _ => hp a [])
theorem contains_decl (p : Decl → Bool) (g : Nat) (l : List Decl) (hp : ∀ d ∈ l, ∀ h, acw C g [declV d] h = some (.ret (.bool (p d)), h)) (hl : l.length ≤ 900) (h : List Ob) : acw C n_slices_ContainsFunc_sapi_Decl_api_Decl [declsV l, .fn (.func g) [] []] h = some (.ret (.bool (l.any p)), h) :=
 containsFunc (C := C) (m := n_slices_ContainsFunc_sapi_Decl_api_Decl) (n := n_slices_IndexFunc_sapi_Decl_api_Decl) (enc := declV) (CT T_slices_IndexFunc_sapi_Decl_api_Decl) (CT T_slices_ContainsFunc_sapi_Decl_api_Decl) (g := g) (first := []) (cap := []) l (by omega) (fun _ _ => declV_elt _) (f' := .fn (.func g) [] []) (h := h) rfl (fun _ => rfl) (p := p) (fun a ha => hp a ha [])
theorem varsLen (m : Mod) (hm : modOK m) : (varsOf m.blocks).length ≤ 900 := by
 have := varsOf_len hm.2.2.2
 have := hm.1
 omega
theorem big (m : Mod) (hm : modOK m) (h : List Ob) : acw C n_model_big [modV m] h = some (.ret (.bool (bigB m)), h) := by
 have k1 := vars m hm
 have k2 := contains_blk _ _ big_1 m.blocks hm.1
 refine acw_ex (v := .bool (bigB m)) (CT T_model_big) rfl rfl (fun _ => rfl) (by simp) ?_
 unfold bigB
 by_cases c1 : 8 < (m.blocks.length : Int)
 ·simp [runW_fin, F_model_big, i_model_big, c1]
 by_cases c2 : 16 < ((varsOf m.blocks).length : Int)
 ·simp [runW_fin, F_model_big, i_model_big, c1, c2, k1]
 by_cases c3 : 16 < (m.goal.length : Int)
 ·simp [runW_fin, F_model_big, i_model_big, c1, c2, c3, k1]
 ·simp [runW_fin, F_model_big, i_model_big, c1, c2, c3, k1, k2]
/-- the wrong ones of a block -/
theorem wrong_1 (c : Con) (hc : conOK c) (es : List Int) (i : Nat) (hi : i < es.length) (h : List Ob) : acw C n_model_wrong_1 [conV c, .pin (intsV es) 0, .pin (iv i) 0] h = some (.ret (.bool (!rightB c es[i])), h) := by
 have k := right c es[i] (conLen hc)
 refine acw_ex (v := .bool (!rightB c es[i])) (CT T_model_wrong_1) rfl rfl (fun _ => rfl) (by simp) ?_
 simp [runW_fin, F_model_wrong_1, i_model_wrong_1, k, hi]
theorem wrong_2 (c : Con) (hc : conOK c) (es : List Int) (n : Nat) (hn : es.length = n + 1) (hn2 : n ≤ 1000) (h : List Ob) : acw C n_model_wrong_2 [conV c, .pin (intsV es) 0] h = some (.ret (.bool (!rightB c (es[n]'(by omega)))), h) := by
 have k := right c (es[n]'(by omega)) (conLen hc)
 have hw : IntKind.i64.wrap ((es.length : Int) - 1) = (n : Int) := by rw [wrap64 (by omega) (by omega)]; omega
 have hi : n < es.length := by omega
 refine acw_ex (v := .bool (!rightB c (es[n]'(by omega)))) (CT T_model_wrong_2) rfl rfl (fun _ => rfl) (by simp) ?_
 simp [runW_fin, F_model_wrong_2, i_model_wrong_2, k, hi, hw]
def wrongBs : List Int → List Blk → Bool
 | e :: es, b :: r => (b.wh.any fun c => !rightB c e) || wrongBs es r
 | _, _ => false
def wrongB (m : Mod) : Bool := wrongBs (endsOf 0 m.blocks) m.blocks || m.goal.any fun c => !rightB c (varsOf m.blocks).length
theorem wrong_loop (m : Mod) (hm : modOK m) (es : List Int) (he : es.length = m.blocks.length) : ∀ (k i : Nat) (h : List Ob), i + k = m.blocks.length → h[0]? = some (.row 2 [modV m]) → h[1]? = some (.row 1 [intsV es]) →
  ∃ h', evw C y0 i_model_wrong_l0 [(1, .ptr 0 0 0 1), (3, .ptr 1 0 0 1), (9, blksV m.blocks), (10, iv m.blocks.length), (11, iv i)] h = some (if wrongBs (es.drop i) (m.blocks.drop i) = true then (.ret, [(2, .bool true)], h') else (.ext 0, [(1, .ptr 0 0 0 1), (3, .ptr 1 0 0 1), (9, blksV m.blocks), (10, iv m.blocks.length), (11, iv m.blocks.length), (12, .bool false)], h')) ∧ h'[0]? = some (.row 2 [modV m]) ∧ h'[1]? = some (.row 1 [intsV es]) := by
 intro k
 induction k with
 | zero =>
  intro i h hi h0 h1
  have : i = m.blocks.length := by omega
  subst this
  rw [r_model_wrong_0, List.drop_length, List.drop_eq_nil_of_le (by omega : es.length ≤ m.blocks.length)]
  refine ⟨h, ?_, h0, h1⟩
  simp [b_model_wrong_0, wrongBs]
 | succ k ih =>
  intro i h hi h0 h1
  have hlt : i < m.blocks.length := by omega
  have hlt' : i < es.length := by omega
  have hn := hm.1
  have hw := wrap_succ hlt (by omega)
  have hb' := hm.2.2.2 _ (List.getElem_mem hlt)
  have l0 : 0 < h.length := (List.getElem?_eq_some_iff.1 h0).1
  have l1 : 1 < h.length := (List.getElem?_eq_some_iff.1 h1).1
  have n0 : (h ++ [.row 1 [iv i], .row 3 [blkV m.blocks[i]]])[0]? = some (.row 2 [modV m]) := by rw [List.getElem?_append_left l0, h0]
  have n1 : (h ++ [.row 1 [iv i], .row 3 [blkV m.blocks[i]]])[1]? = some (.row 1 [intsV es]) := by rw [List.getElem?_append_left l1, h1]
  have k1 : ∀ hh, frz hh fdepth (.fn (.func n_model_wrong_1) [] [.ptr 1 0 0 1, .ptr h.length 0 0 1]) = some (.fn (.func n_model_wrong_1) [] [.pin (intsV es) 0, .pin (iv i) 0]) → acw C n_slices_ContainsFunc_sapi_Con_api_Con [consV m.blocks[i].wh, .fn (.func n_model_wrong_1) [] [.ptr 1 0 0 1, .ptr h.length 0 0 1]] hh = some (.ret (.bool (m.blocks[i].wh.any fun c => !rightB c es[i])), hh) := fun hh hf =>
   containsFunc (C := C) (m := n_slices_ContainsFunc_sapi_Con_api_Con) (n := n_slices_IndexFunc_sapi_Con_api_Con) (enc := conV) (CT T_slices_IndexFunc_sapi_Con_api_Con) (CT T_slices_ContainsFunc_sapi_Con_api_Con) (g := n_model_wrong_1) (first := []) (cap := [.pin (intsV es) 0, .pin (iv i) 0]) m.blocks[i].wh (by have := hb'.2.1; omega) (fun _ _ => conV_elt _) (h := hh) hf (fun _ => rfl) (p := fun c => !rightB c es[i]) (fun a ha => wrong_1 a (hb'.2.2.1 a ha) es i hlt' [])
  have k2 := k1 (h ++ [.row 1 [iv i], .row 3 [blkV m.blocks[i]]]) (frz_two n1 (sb := 1) (y := iv i) (by simp) rfl rfl)
  obtain ⟨h', ih, g0, g1⟩ := ih (i + 1) (h ++ [.row 1 [iv i], .row 3 [blkV m.blocks[i]]]) (by omega) n0 n1
  rw [r_model_wrong_0, List.drop_eq_getElem_cons hlt, List.drop_eq_getElem_cons hlt']
  simp only [wrongBs]
  simp only [Int.natCast_add, Int.cast_ofNat_Int] at ih
  rcases Bool.eq_false_or_eq_true (m.blocks[i].wh.any fun c => !rightB c es[i]) with e | e <;> rw [e] at k2 <;> simp only [e]
  ·refine ⟨_, ?_, n0, n1⟩
   simp [b_model_wrong_0, hlt, k2]
  ·refine ⟨h', ?_, g0, g1⟩
   simp only [Bool.false_or, ← ih]
   simp [b_model_wrong_0, hlt, k2, hw]
theorem wrong (m : Mod) (hm : modOK m) (hne : m.blocks ≠ []) (h : List Ob) : acw C n_model_wrong [modV m] h = some (.ret (.bool (wrongB m)), h) := by
 have k1 := ends m hm
 have hlen : (endsOf 0 m.blocks).length = m.blocks.length := endsOf_len
 obtain ⟨n, hn⟩ : ∃ n, m.blocks.length = n + 1 := ⟨m.blocks.length - 1, by have := List.length_pos_iff.2 hne; omega⟩
 have hm1 := hm.1
 obtain ⟨h', k2, g0, g1⟩ := wrong_loop m hm (endsOf 0 m.blocks) hlen m.blocks.length 0 [.row 2 [modV m], .row 1 [intsV (endsOf 0 m.blocks)]] (by omega) rfl rfl
 simp only [List.drop_zero, Int.cast_ofNat_Int] at k2
 have k3 : acw C n_slices_ContainsFunc_sapi_Con_api_Con [consV m.goal, .fn (.func n_model_wrong_2) [] [.ptr 1 0 0 1]] h' = some (.ret (.bool (m.goal.any fun c => !rightB c (varsOf m.blocks).length)), h') :=
  containsFunc (C := C) (m := n_slices_ContainsFunc_sapi_Con_api_Con) (n := n_slices_IndexFunc_sapi_Con_api_Con) (enc := conV) (CT T_slices_IndexFunc_sapi_Con_api_Con) (CT T_slices_ContainsFunc_sapi_Con_api_Con) (g := n_model_wrong_2) (first := []) (cap := [.pin (intsV (endsOf 0 m.blocks)) 0]) m.goal (by have := hm.2.1; omega) (fun _ _ => conV_elt _) (frz_oneV g1 rfl) (fun _ => rfl) (p := fun c => !rightB c (varsOf m.blocks).length) (fun a ha => by
   have := wrong_2 a (hm.2.2.1 a ha) (endsOf 0 m.blocks) n (by omega) (by omega) []
   rw [endsOf_last hn (by omega)] at this
   simpa using this)
 refine acw_ex (v := .bool (wrongB m)) (CT T_model_wrong) rfl rfl (fun _ => rfl) (by simp) ?_
 unfold wrongB
 rcases Bool.eq_false_or_eq_true (wrongBs (endsOf 0 m.blocks) m.blocks) with e | e <;> simp only [e, Bool.false_eq_true, if_true, if_false] at k2 <;> simp only [e]
 ·simp [runW_fin, F_model_wrong, i_model_wrong, k1, k2]
 ·have l0 : 0 < h'.length := (List.getElem?_eq_some_iff.1 g0).1
  have r0 : rowOf h' 0 1 = some (2, [modV m]) := by simp [rowOf, g0]
  simp [runW_fin, F_model_wrong, i_model_wrong, k1, k2, k3, g0]
def twB (pre : List Decl) : List Decl → Bool
 | [] => false
 | d :: r => (pre.any fun x => x.name == d.name) || twB (pre ++ [d]) r
/-- why a model may not be; 0: it may -/
def checkB (m : Mod) : Int :=
 if bigB m then 5
 else if decide ((m.blocks.length : Int) = 0) || (m.blocks.any fun b => decide ((b.vars.length : Int) = 0)) then 2
 else if (varsOf m.blocks).any fun d => !nameB d.name then 7
 else if twB [] (varsOf m.blocks) then 8
 else if (varsOf m.blocks).any argB then 1
 else if wrongB m then 12
 else 0
theorem check_loop (l : List Decl) (P : V) (hn : l.length ≤ 900) (hd : ∀ d ∈ l, declOK d) : ∀ (k i : Nat) (h : List Ob), i + k = l.length →
  ∃ h', evw C y0 i_model_Check_l0 [(1, P), (3, declsV l), (21, declsV l), (22, iv l.length), (23, iv i)] h = some (if twB (l.take i) (l.drop i) = true then (.ret, [(2, iv 8)], h') else (.ext 0, [(1, P), (3, declsV l), (21, declsV l), (22, iv l.length), (23, iv l.length), (24, .bool false)], h')) ∧ ∀ x, h[0]? = some x → h'[0]? = some x := by
 intro k
 induction k with
 | zero =>
  intro i h hi
  have : i = l.length := by omega
  subst this
  rw [r_model_Check_0, List.drop_length]
  refine ⟨h, ?_, fun _ e => e⟩
  simp [b_model_Check_0, twB]
 | succ k ih =>
  intro i h hi
  have hlt : i < l.length := by omega
  have hw := wrap_succ hlt (by omega)
  have hle : i ≤ l.length := by omega
  obtain ⟨h', ih, g⟩ := ih (i + 1) (h ++ [.row 2 [declV l[i]]]) (by omega)
  have g' : ∀ x, h[0]? = some x → h'[0]? = some x := fun x hx => g x (by rw [List.getElem?_append_left (List.getElem?_eq_some_iff.1 hx).1]; exact hx)
  simp only [Int.natCast_add, Int.cast_ofNat_Int, List.take_succ_eq_append_getElem hlt] at ih
  have k1 : acw C n_slices_ContainsFunc_sapi_Decl_api_Decl [declsV (l.take i), .fn (.func n_model_Check_3) [] [.ptr h.length 0 0 1]] (h ++ [.row 2 [declV l[i]]]) = some (.ret (.bool ((l.take i).any fun x => x.name == l[i].name)), h ++ [.row 2 [declV l[i]]]) :=
   containsFunc (C := C) (m := n_slices_ContainsFunc_sapi_Decl_api_Decl) (n := n_slices_IndexFunc_sapi_Decl_api_Decl) (enc := declV) (CT T_slices_IndexFunc_sapi_Decl_api_Decl) (CT T_slices_ContainsFunc_sapi_Decl_api_Decl) (g := n_model_Check_3) (first := []) (cap := [.pin (declV l[i]) 0]) (l.take i) (by rw [List.length_take]; omega) (fun _ _ => declV_elt _) (frz_oneV (sa := 2) (x := declV l[i]) (by simp) (declV_fz _ _ 6)) (fun _ => rfl) (p := fun x => x.name == l[i].name) (fun a ha => check_3 a l[i] [])
  simp only [declsV, List.map_take] at k1
  rw [r_model_Check_0, List.drop_eq_getElem_cons hlt]
  simp only [twB]
  rcases Bool.eq_false_or_eq_true ((l.take i).any fun x => x.name == l[i].name) with e | e <;> rw [e] at k1 <;> simp only [e]
  ·refine ⟨h ++ [.row 2 [declV l[i]]], ?_, fun x hx => by rw [List.getElem?_append_left (List.getElem?_eq_some_iff.1 hx).1]; exact hx⟩
   simp [b_model_Check_0, hlt, hle, k1]
  ·refine ⟨h', ?_, g'⟩
   simp only [Bool.false_or, ← ih]
   simp [b_model_Check_0, hlt, hle, k1, hw]
theorem check (m : Mod) (hm : modOK m) (h : List Ob) : acw C n_model_Check [modV m] h = some (.ret (iv (checkB m)), h) := by
 have hv : ∀ d ∈ varsOf m.blocks, declOK d := by
  intro d hd
  obtain ⟨b, hb, hd⟩ := List.mem_flatMap.1 hd
  exact (hm.2.2.2 b hb).2.2.2 d hd
 have k1 := big m hm
 have k2 := contains_blk _ _ check_1 m.blocks hm.1
 have k3 := vars m hm
 have k4 := contains_decl _ _ (varsOf m.blocks) (fun d hd h => check_2 d (hv d hd) h) (varsLen m hm)
 have k5 := contains_decl _ _ (varsOf m.blocks) (fun d hd h => check_4 d (hv d hd) h) (varsLen m hm)
 obtain ⟨h', k6, g⟩ := check_loop (varsOf m.blocks) (.ptr 0 0 0 1) (varsLen m hm) hv (varsOf m.blocks).length 0 [.row 2 [modV m]] (by omega)
 have g0 := g _ rfl
 have r0 : rowOf h' 0 1 = some (2, [modV m]) := by simp [rowOf, g0]
 simp only [List.take_zero, List.drop_zero, Int.cast_ofNat_Int] at k6
 refine acw_ex (v := iv (checkB m)) (CT T_model_Check) rfl rfl (fun _ => rfl) (by simp) ?_
 unfold checkB
 rcases Bool.eq_false_or_eq_true (bigB m) with e1 | e1 <;> rw [e1] at k1 <;> simp only [e1]
 ·simp [runW_fin, F_model_Check, i_model_Check, k1]
 by_cases hne : m.blocks = []
 ·obtain ⟨bs, gl⟩ := m
  dsimp only at hne
  subst hne
  simp only [modV, List.map_nil] at k1
  simp [runW_fin, F_model_Check, i_model_Check, k1, ieq]
 have hne' : ¬ ((m.blocks.length : Int) = 0) := by have := List.length_pos_iff.2 hne; omega
 have k7 := wrong m hm hne
 rcases Bool.eq_false_or_eq_true (m.blocks.any fun b => decide ((b.vars.length : Int) = 0)) with e2 | e2 <;> rw [e2] at k2 <;> simp only [e2]
 ·simp [runW_fin, F_model_Check, i_model_Check, k1, hne, hne', k2, ieq]
 rcases Bool.eq_false_or_eq_true ((varsOf m.blocks).any fun d => !nameB d.name) with e3 | e3 <;> rw [e3] at k4 <;> simp only [e3]
 ·simp [runW_fin, F_model_Check, i_model_Check, k1, hne, hne', k2, k3, k4, ieq]
 rcases Bool.eq_false_or_eq_true (twB [] (varsOf m.blocks)) with e4 | e4 <;> simp only [e4, Bool.false_eq_true, if_true, if_false] at k6 <;> simp only [e4]
 ·simp [runW_fin, F_model_Check, i_model_Check, k1, hne, hne', k2, k3, k4, k6, ieq]
 rcases Bool.eq_false_or_eq_true ((varsOf m.blocks).any argB) with e5 | e5 <;> rw [e5] at k5 <;> simp only [e5]
 ·simp [runW_fin, F_model_Check, i_model_Check, k1, hne, hne', k2, k3, k4, k6, k5, ieq]
 rcases Bool.eq_false_or_eq_true (wrongB m) with e6 | e6 <;> rw [e6] at k7 <;> simp only [e6]
 ·simp [runW_fin, F_model_Check, i_model_Check, k1, hne, hne', k2, k3, k4, k6, k5, k7, g0, ieq]
 ·simp [runW_fin, F_model_Check, i_model_Check, k1, hne, hne', k2, k3, k4, k6, k5, k7, g0, ieq]
end Go.RR.M
set_option linter.unusedVariables false
set_option linter.unusedSimpArgs false
set_option maxRecDepth 100000
namespace Go.RR.M
open Go Go.RR
theorem rc_l0 (m : Mod) (hm : modOK m) (es : List Int) (he : es.length = m.blocks.length) (L F : V) (i : Nat) (hi : i < m.blocks.length) : ∀ (d k : Nat) (w : Bool), k + d = m.blocks[i].wh.length →
  evw C y0 i_ref08_Check_l0 [(1, .ptr 0 0 0 1), (3, L), (4, F), (5, .bool w), (6, intsV es), (7, iv i), (8, iv k)] [.row 2 [modV m]] = some (.ext 2, [(1, .ptr 0 0 0 1), (3, L), (4, F), (5, .bool (w || (m.blocks[i].wh.drop k).any fun c => !rightB c (es[i]'(by omega)))), (6, intsV es), (7, iv i), (8, iv m.blocks[i].wh.length), (71, .bool false)], [.row 2 [modV m]]) := by
 have hi' : i < es.length := by omega
 have hn := hm.1
 have hb' := hm.2.2.2 _ (List.getElem_mem hi)
 have hb2 := hb'.2.1
 intro d
 induction d with
 | zero =>
  intro k w hk
  have : k = m.blocks[i].wh.length := by omega
  subst this
  rw [r_ref08_Check_0, List.drop_length]
  simp [b_ref08_Check_0, hi]
 | succ d ih =>
  intro k w hk
  have hlt : k < m.blocks[i].wh.length := by omega
  have hw := wrap_succ hlt (by omega)
  have hc := ref_right m.blocks[i].wh[k] (es[i]'(by omega)) (conLen (hb'.2.2.1 _ (List.getElem_mem hlt)))
  rw [r_ref08_Check_0, List.drop_eq_getElem_cons hlt, List.any_cons]
  cases w with
  | true =>
   have ih := ih (k + 1) true (by omega)
   simp only [Int.natCast_add, Int.cast_ofNat_Int, Bool.true_or] at ih
   simp only [Bool.true_or]
   simp [b_ref08_Check_0, hi, hi', hlt, hw, ih]
  | false =>
   have ih := ih (k + 1) (!rightB m.blocks[i].wh[k] (es[i]'(by omega))) (by omega)
   simp only [Int.natCast_add, Int.cast_ofNat_Int] at ih
   simp only [Bool.false_or]
   rcases Bool.eq_false_or_eq_true (rightB m.blocks[i].wh[k] (es[i]'(by omega))) with e | e <;> rw [e] at hc ih <;> simp only [e]
   ·simp [b_ref08_Check_0, hi, hi', hlt, hw, hc]
    simpa using ih
   ·simp [b_ref08_Check_0, hi, hi', hlt, hw, hc]
    simpa using ih
end Go.RR.M
set_option linter.unusedVariables false
set_option linter.unusedSimpArgs false
set_option maxRecDepth 100000
namespace Go.RR.M
open Go Go.RR
theorem rc_l1 (m : Mod) (hm : modOK m) (es : List Int) (he : es.length = m.blocks.length) (L : V) : ∀ (d i : Nat) (f w : Bool), i + d = m.blocks.length →
  evw C y0 i_ref08_Check_l1 [(1, .ptr 0 0 0 1), (3, L), (4, .bool f), (5, .bool w), (6, intsV es), (7, iv i)] [.row 2 [modV m]] = some (if ((m.blocks.drop i).any fun b => decide (16 < (b.wh.length : Int))) = true then (.ret, [(2, iv 5)], [.row 2 [modV m]]) else (.ext 0, [(1, .ptr 0 0 0 1), (3, L), (4, .bool (f || (m.blocks.drop i).any fun b => decide ((b.vars.length : Int) = 0))), (5, .bool (w || wrongBs (es.drop i) (m.blocks.drop i))), (6, intsV es), (7, iv m.blocks.length), (41, .bool false)], [.row 2 [modV m]])) := by
 have hn := hm.1
 intro d
 induction d with
 | zero =>
  intro i f w hi
  have : i = m.blocks.length := by omega
  subst this
  rw [r_ref08_Check_1, List.drop_length, List.drop_eq_nil_of_le (by omega : es.length ≤ m.blocks.length)]
  simp [b_ref08_Check_1, wrongBs]
 | succ d ih =>
  intro i f w hi
  have hlt : i < m.blocks.length := by omega
  have hlt' : i < es.length := by omega
  have hw := wrap_succ hlt (by omega)
  rw [r_ref08_Check_1, List.drop_eq_getElem_cons hlt, List.drop_eq_getElem_cons hlt', List.any_cons, List.any_cons]
  simp only [wrongBs]
  by_cases c1 : 16 < (m.blocks[i].wh.length : Int)
  ·simp only [decide_eq_true c1, Bool.true_or, if_true]
   simp [b_ref08_Check_1, hlt, c1]
  ·simp only [decide_eq_false c1, Bool.false_or]
   have ih := ih (i + 1) (f || decide ((m.blocks[i].vars.length : Int) = 0)) (w || m.blocks[i].wh.any fun c => !rightB c es[i]) (by omega)
   have l0 := rc_l0 m hm es he L (.bool (f || decide ((m.blocks[i].vars.length : Int) = 0))) i hlt m.blocks[i].wh.length 0 w (by omega)
   simp only [Int.natCast_add, Int.cast_ofNat_Int, List.drop_zero] at ih l0
   rw [← Bool.or_assoc, ← Bool.or_assoc, ← ih]
   cases f with
   | true =>
    simp only [Bool.true_or] at l0 ⊢
    simp [b_ref08_Check_1, hlt, c1, l0, hw]
   | false =>
    simp only [Bool.false_or] at l0 ⊢
    by_cases c2 : (m.blocks[i].vars.length : Int) = 0
    ·simp only [decide_eq_true c2] at l0 ⊢
     simp [b_ref08_Check_1, hlt, c1, ieq, c2, l0, hw]
    ·simp only [decide_eq_false c2] at l0 ⊢
     have c2' : ¬ (m.blocks[i].vars = []) := by intro e; rw [e] at c2; exact c2 rfl
     simp [b_ref08_Check_1, hlt, c1, ieq, c2', l0, hw]
theorem rc_l2 (m : Mod) (hm : modOK m) (ds : List Decl) (F : V) : ∀ (d k : Nat) (w : Bool), k + d = m.goal.length →
  evw C y0 i_ref08_Check_l2 [(1, .ptr 0 0 0 1), (3, declsV ds), (4, F), (5, .bool w), (9, iv k)] [.row 2 [modV m]] = some (.ext 4, [(1, .ptr 0 0 0 1), (3, declsV ds), (4, F), (5, .bool (w || (m.goal.drop k).any fun c => !rightB c ds.length)), (9, iv m.goal.length), (96, .bool false)], [.row 2 [modV m]]) := by
 have hn := hm.2.1
 intro d
 induction d with
 | zero =>
  intro k w hk
  have : k = m.goal.length := by omega
  subst this
  rw [r_ref08_Check_2, List.drop_length]
  simp [b_ref08_Check_2]
 | succ d ih =>
  intro k w hk
  have hlt : k < m.goal.length := by omega
  have hw := wrap_succ hlt (by omega)
  have hc := ref_right m.goal[k] ds.length (conLen (hm.2.2.1 _ (List.getElem_mem hlt)))
  rw [r_ref08_Check_2, List.drop_eq_getElem_cons hlt, List.any_cons]
  cases w with
  | true =>
   have ih := ih (k + 1) true (by omega)
   simp only [Int.natCast_add, Int.cast_ofNat_Int, Bool.true_or] at ih
   simp only [Bool.true_or]
   simp [b_ref08_Check_2, hlt, hw, ih]
  | false =>
   have ih := ih (k + 1) (!rightB m.goal[k] ds.length) (by omega)
   simp only [Int.natCast_add, Int.cast_ofNat_Int] at ih
   simp only [Bool.false_or]
   rcases Bool.eq_false_or_eq_true (rightB m.goal[k] ds.length) with e | e <;> rw [e] at hc ih <;> simp only [e]
   ·simp [b_ref08_Check_2, hlt, hw, hc]
    simpa using ih
   ·simp [b_ref08_Check_2, hlt, hw, hc]
    simpa using ih
theorem rc_l3 (ds : List Decl) (hd : ∀ d ∈ ds, declOK d) (hn : ds.length ≤ 900) (W : V) (h : List Ob) :
  evw C y0 i_ref08_Check_l3 [(3, declsV ds), (5, W), (10, iv 0)] h = some (if (ds.any fun d => !nameB d.name) = false then (.ext 6, [(3, declsV ds), (5, W), (10, iv ds.length), (115, .bool false)], h) else (.ret, [(2, iv 7)], h)) := by
 have := loop_all (C := C) (Y := y0) (b := b_ref08_Check_3) ds (fun k => [(3, declsV ds), (5, W), (10, iv k)]) h (fun d => !(!nameB d.name)) (.ret, [(2, iv 7)], h) (.ext 6, [(3, declsV ds), (5, W), (10, iv ds.length), (115, .bool false)], h) (by simp [b_ref08_Check_3]) (by simp) (by simp) fun k hk => by
  have hw := wrap_succ hk (by omega)
  have hc := ref_name ds[k].name (by have := (hd _ (List.getElem_mem hk)).1; omega)
  rcases Bool.eq_false_or_eq_true (nameB ds[k].name) with e | e <;> rw [e] at hc <;> simp only [e]
  ·simp [b_ref08_Check_3, hk, hw, hc]
  ·simp [b_ref08_Check_3, hk, hw, hc]
 rw [all_not_any] at this
 simp only [Int.cast_ofNat_Int, Bool.not_eq_true'] at this
 exact this
theorem rc_l4 (ds : List Decl) (hn : ds.length ≤ 900) (W : V) (h : List Ob) (i : Nat) (hi : i < ds.length) :
  evw C y0 i_ref08_Check_l4 [(3, declsV ds), (5, W), (11, iv i), (12, iv 0)] h = some (if ((ds.take i).any fun x => x.name == ds[i].name) = false then (.ext 10, [(3, declsV ds), (5, W), (11, iv i), (12, iv i), (133, .bool false)], h) else (.ret, [(2, iv 8)], h)) := by
 have hle : (ds.take i).length = i := by rw [List.length_take]; omega
 have := loop_all (C := C) (Y := y0) (b := b_ref08_Check_4) (ds.take i) (fun k => [(3, declsV ds), (5, W), (11, iv i), (12, iv k)]) h (fun x => !(x.name == ds[i].name)) (.ret, [(2, iv 8)], h) (.ext 10, [(3, declsV ds), (5, W), (11, iv i), (12, iv i), (133, .bool false)], h) (by rw [hle]; simp [b_ref08_Check_4]) (by simp) (by simp) fun k hk => by
  rw [hle] at hk
  have hlt : k < ds.length := by omega
  have hw := wrap_succ hlt (by omega)
  simp only [List.getElem_take]
  rcases Bool.eq_false_or_eq_true (ds[k].name == ds[i].name) with e | e
  ·have e' : (ds[i].name == ds[k].name) = true := by rw [beq_iff_eq] at e ⊢; exact e.symm
   simp only [e]
   simp [b_ref08_Check_4, hi, hk, hlt, e']
  ·have e' : (ds[i].name == ds[k].name) = false := by rw [beq_eq_false_iff_ne] at e ⊢; exact fun h => e h.symm
   simp only [e]
   simp [b_ref08_Check_4, hi, hk, hlt, e', hw]
 rw [all_not_any] at this
 simp only [Int.cast_ofNat_Int, Bool.not_eq_true'] at this
 exact this
theorem rc_l5 (ds : List Decl) (hn : ds.length ≤ 900) (W : V) (h : List Ob) : ∀ (d i : Nat), i + d = ds.length →
  evw C y0 i_ref08_Check_l5 [(3, declsV ds), (5, W), (11, iv i)] h = some (if twB (ds.take i) (ds.drop i) = true then (.ret, [(2, iv 8)], h) else (.ext 8, [(3, declsV ds), (5, W), (11, iv ds.length), (128, .bool false)], h)) := by
 intro d
 induction d with
 | zero =>
  intro i hi
  have : i = ds.length := by omega
  subst this
  rw [r_ref08_Check_5, List.drop_length]
  simp [b_ref08_Check_5, twB]
 | succ d ih =>
  intro i hi
  have hlt : i < ds.length := by omega
  have hw := wrap_succ hlt (by omega)
  have ih := ih (i + 1) (by omega)
  have hc := rc_l4 ds hn W h i hlt
  simp only [Int.natCast_add, Int.cast_ofNat_Int, List.take_succ_eq_append_getElem hlt] at ih
  rw [r_ref08_Check_5, List.drop_eq_getElem_cons hlt]
  simp only [twB]
  rcases Bool.eq_false_or_eq_true ((ds.take i).any fun x => x.name == ds[i].name) with e | e <;> rw [e] at hc <;> simp only [e]
  ·simp [b_ref08_Check_5, hlt, hc]
  ·simp only [Bool.false_or, ← ih]
   simp [b_ref08_Check_5, hlt, hc, hw]
theorem rc_l6 (ds : List Decl) (hd : ∀ d ∈ ds, declOK d) (hn : ds.length ≤ 900) (W : V) (h : List Ob) :
  evw C y0 i_ref08_Check_l6 [(3, declsV ds), (5, W), (13, iv 0)] h = some (if (ds.any argB) = false then (.ext 12, [(3, declsV ds), (5, W), (13, iv ds.length), (150, .bool false)], h) else (.ret, [(2, iv 1)], h)) := by
 have := loop_all (C := C) (Y := y0) (b := b_ref08_Check_6) ds (fun k => [(3, declsV ds), (5, W), (13, iv k)]) h (fun d => !argB d) (.ret, [(2, iv 1)], h) (.ext 12, [(3, declsV ds), (5, W), (13, iv ds.length), (150, .bool false)], h) (by simp [b_ref08_Check_6]) (by simp) (by simp) fun k hk => by
  have hw := wrap_succ hk (by omega)
  have hc := ref03_Size ds[k].dom (by have := (hd _ (List.getElem_mem hk)).2; omega)
  by_cases c1 : spN ds[k].dom < 1
  ·simp [b_ref08_Check_6, hk, hw, hc, c1, argB]
  ·by_cases c2 : 64 < spN ds[k].dom
   ·simp [b_ref08_Check_6, hk, hw, hc, c1, c2, argB]
   ·simp [b_ref08_Check_6, hk, hw, hc, c1, c2, argB]
 rw [all_not_any] at this
 simp only [Int.cast_ofNat_Int, Bool.not_eq_true'] at this
 exact this
theorem ref_check (m : Mod) (hm : modOK m) (h : List Ob) : acw C n_ref08_Check [modV m] h = some (.ret (iv (checkB m)), h) := by
 have hv : ∀ d ∈ varsOf m.blocks, declOK d := by
  intro d hd
  obtain ⟨b, hb, hd⟩ := List.mem_flatMap.1 hd
  exact (hm.2.2.2 b hb).2.2.2 d hd
 have hvl := varsLen m hm
 have k1 := ref_vars m hm
 have k2 := ref_ends m hm
 have hlen : (endsOf 0 m.blocks).length = m.blocks.length := endsOf_len
 have k3 := rc_l1 m hm (endsOf 0 m.blocks) hlen (declsV (varsOf m.blocks)) m.blocks.length 0 (decide ((m.blocks.length : Int) = 0)) false (by omega)
 simp only [List.drop_zero, Int.cast_ofNat_Int, Bool.false_or] at k3
 have k4 := rc_l2 m hm (varsOf m.blocks) (.bool (decide ((m.blocks.length : Int) = 0) || m.blocks.any fun b => decide ((b.vars.length : Int) = 0))) m.goal.length 0 (wrongBs (endsOf 0 m.blocks) m.blocks) (by omega)
 have hwr : (wrongBs (endsOf 0 m.blocks) m.blocks || m.goal.any fun c => !rightB c (varsOf m.blocks).length) = wrongB m := rfl
 simp only [List.drop_zero, Int.cast_ofNat_Int, hwr] at k4
 have k5 := rc_l3 (varsOf m.blocks) hv hvl (.bool (wrongB m)) [.row 2 [modV m]]
 have k6 := rc_l5 (varsOf m.blocks) hvl (.bool (wrongB m)) [.row 2 [modV m]] (varsOf m.blocks).length 0 (by omega)
 simp only [List.take_zero, List.drop_zero, Int.cast_ofNat_Int] at k6
 have k7 := rc_l6 (varsOf m.blocks) hv hvl (.bool (wrongB m)) [.row 2 [modV m]]
 refine acw_ex (v := iv (checkB m)) (CT T_ref08_Check) rfl rfl (fun _ => rfl) (by simp) ?_
 unfold checkB bigB
 by_cases c1 : 8 < (m.blocks.length : Int)
 ·simp [runW_fin, F_ref08_Check, i_ref08_Check, c1, k1]
 by_cases c2 : 16 < ((varsOf m.blocks).length : Int)
 ·simp [runW_fin, F_ref08_Check, i_ref08_Check, c1, c2, k1]
 by_cases c3 : 16 < (m.goal.length : Int)
 ·simp [runW_fin, F_ref08_Check, i_ref08_Check, c1, c2, c3, k1]
 simp only [decide_eq_false c1, decide_eq_false c2, decide_eq_false c3, Bool.false_or]
 obtain ⟨form, hform⟩ : ∃ form, (decide ((m.blocks.length : Int) = 0) || m.blocks.any fun b => decide ((b.vars.length : Int) = 0)) = form := ⟨_, rfl⟩
 simp only [hform] at k3 k4 ⊢
 rcases Bool.eq_false_or_eq_true (m.blocks.any fun b => decide (16 < (b.wh.length : Int))) with e0 | e0 <;> simp only [e0, Bool.false_eq_true, if_true, if_false] at k3 <;> simp only [e0]
 ·by_cases hz : (m.blocks.length : Int) = 0
  ·simp only [decide_eq_true hz] at k3
   have hz' : m.blocks = [] := List.length_eq_zero_iff.1 (by omega)
   rw [hz'] at e0
   exact Bool.noConfusion e0
  ·simp only [decide_eq_false hz] at k3
   have hz' : ¬ (m.blocks = []) := by intro e; rw [e] at hz; exact hz rfl
   simp [runW_fin, F_ref08_Check, i_ref08_Check, c1, c2, c3, k1, k2, k3, hz', ieq]
 cases form with
 | true =>
  by_cases hz : (m.blocks.length : Int) = 0
  ·have hz' : m.blocks = [] := List.length_eq_zero_iff.1 (by omega)
   simp only [decide_eq_true hz] at k3
   obtain ⟨bs, gl⟩ := m
   dsimp only at hz'
   subst hz'
   simp only [modV, declsV, blksV, intsV, varsOf, endsOf, List.map_nil, List.flatMap_nil, List.length_nil] at k1 k2 k3 k4
   simp [runW_fin, F_ref08_Check, i_ref08_Check, c3, k1, k2, k3, k4, ieq]
  ·simp only [decide_eq_false hz] at k3
   have hz' : ¬ (m.blocks = []) := by intro e; rw [e] at hz; exact hz rfl
   simp [runW_fin, F_ref08_Check, i_ref08_Check, c1, c2, c3, k1, k2, k3, k4, hz', ieq]
 | false =>
  have hz : ¬ ((m.blocks.length : Int) = 0) := by
   intro e
   rw [decide_eq_true e, Bool.true_or] at hform
   exact Bool.noConfusion hform
  simp only [decide_eq_false hz] at k3
  have hz' : ¬ (m.blocks = []) := by intro e; rw [e] at hz; exact hz rfl
  rcases Bool.eq_false_or_eq_true ((varsOf m.blocks).any fun d => !nameB d.name) with e3 | e3 <;> simp only [e3, Bool.true_eq_false, if_true, if_false] at k5 <;> simp only [e3]
  ·simp [runW_fin, F_ref08_Check, i_ref08_Check, c1, c2, c3, k1, k2, k3, k4, k5, hz', ieq]
  rcases Bool.eq_false_or_eq_true (twB [] (varsOf m.blocks)) with e4 | e4 <;> simp only [e4, Bool.false_eq_true, if_true, if_false] at k6 <;> simp only [e4]
  ·simp [runW_fin, F_ref08_Check, i_ref08_Check, c1, c2, c3, k1, k2, k3, k4, k5, k6, hz', ieq]
  rcases Bool.eq_false_or_eq_true ((varsOf m.blocks).any argB) with e5 | e5 <;> simp only [e5, Bool.true_eq_false, if_true, if_false] at k7 <;> simp only [e5]
  ·simp [runW_fin, F_ref08_Check, i_ref08_Check, c1, c2, c3, k1, k2, k3, k4, k5, k6, k7, hz', ieq]
  rcases Bool.eq_false_or_eq_true (wrongB m) with e6 | e6 <;> simp only [e6] at k4 k5 k6 k7 <;> simp only [e6]
  ·simp [runW_fin, F_ref08_Check, i_ref08_Check, c1, c2, c3, k1, k2, k3, k4, k5, k6, k7, hz', ieq]
  ·simp [runW_fin, F_ref08_Check, i_ref08_Check, c1, c2, c3, k1, k2, k3, k4, k5, k6, k7, hz', ieq]
end Go.RR.M
set_option linter.unusedVariables false
set_option linter.unusedSimpArgs false
set_option maxRecDepth 100000
namespace Go.RR.M
open Go Go.RR
def conBig (c : Con) : Bool := decide (150 < (c.vars.length : Int)) || (decide (150 < (c.coefs.length : Int)) || decide (150 < (c.nums.length : Int)))
def consB (l : List Con) : Bool := decide (30 < (l.length : Int)) || l.any conBig
theorem conBig_ok {c : Con} (h : conBig c = false) : conOK c := by
 unfold conBig at h
 simp only [Bool.or_eq_false_iff, decide_eq_false_iff_not] at h
 exact ⟨by omega, by omega, by omega⟩
theorem cons_loop (l : List Con) (hl : l.length ≤ 30) : ∀ (k i : Nat) (h : List Ob), i + k = l.length →
  ∃ h', evw C y0 i_law08_cons_l0 [(8, consV l), (9, iv l.length), (10, iv i)] h = some (if (l.drop i).any conBig = true then (.ret, [(2, .bool true)], h') else (.ext 0, [(8, consV l), (9, iv l.length), (10, iv l.length), (11, .bool false)], h')) := by
 intro k
 induction k with
 | zero =>
  intro i h hi
  have : i = l.length := by omega
  subst this
  refine ⟨h, ?_⟩
  rw [r_law08_cons_0, List.drop_length]
  simp [b_law08_cons_0]
 | succ k ih =>
  intro i h hi
  have hlt : i < l.length := by omega
  have hw := wrap_succ hlt (by omega)
  obtain ⟨h', ih⟩ := ih (i + 1) (h ++ [.row 6 [conV l[i]]]) (by omega)
  simp only [Int.natCast_add, Int.cast_ofNat_Int] at ih
  rw [r_law08_cons_0, List.drop_eq_getElem_cons hlt, List.any_cons]
  by_cases c1 : 150 < (l[i].vars.length : Int)
  ·have e : conBig l[i] = true := by simp [conBig, c1]
   refine ⟨h ++ [.row 6 [conV l[i]]], ?_⟩
   simp only [e, Bool.true_or, if_true]
   simp [b_law08_cons_0, hlt, c1]
  by_cases c2 : 150 < (l[i].coefs.length : Int)
  ·have e : conBig l[i] = true := by simp [conBig, c2]
   refine ⟨h ++ [.row 6 [conV l[i]]], ?_⟩
   simp only [e, Bool.true_or, if_true]
   simp [b_law08_cons_0, hlt, c1, c2]
  by_cases c3 : 150 < (l[i].nums.length : Int)
  ·have e : conBig l[i] = true := by simp [conBig, c3]
   refine ⟨h ++ [.row 6 [conV l[i]]], ?_⟩
   simp only [e, Bool.true_or, if_true]
   simp [b_law08_cons_0, hlt, c1, c2, c3]
  have e : conBig l[i] = false := by simp [conBig, c1, c2, c3]
  refine ⟨h', ?_⟩
  simp only [e, Bool.false_or, ← ih]
  simp [b_law08_cons_0, hlt, c1, c2, c3, hw]
theorem cons (l : List Con) (h : List Ob) : acw C n_law08_cons [consV l] h = some (.ret (.bool (consB l)), h) := by
 refine acw_ex (v := .bool (consB l)) (CT T_law08_cons) rfl rfl (fun _ => rfl) (by simp) ?_
 unfold consB
 by_cases c : 30 < (l.length : Int)
 ·simp [runW_fin, F_law08_cons, i_law08_cons, c]
 ·obtain ⟨h', e⟩ := cons_loop l (by omega) l.length 0 [] (by omega)
  simp only [List.drop_zero, Int.cast_ofNat_Int] at e
  simp only [decide_eq_false c, Bool.false_or]
  rcases Bool.eq_false_or_eq_true (l.any conBig) with b | b <;> simp only [b, Bool.false_eq_true, if_true, if_false] at e <;> simp only [b]
  ·simp [runW_fin, F_law08_cons, i_law08_cons, c, e]
  ·simp [runW_fin, F_law08_cons, i_law08_cons, c, e]
theorem consB_ok {l : List Con} (h : consB l = false) : l.length ≤ 30 ∧ ∀ c ∈ l, conOK c := by
 unfold consB at h
 simp only [Bool.or_eq_false_iff, decide_eq_false_iff_not] at h
 exact ⟨by omega, fun c hc => conBig_ok (by
  rw [Bool.eq_false_iff]
  intro e
  rw [List.any_eq_true.2 ⟨c, hc, e⟩] at h
  exact Bool.noConfusion h.2)⟩
def declBig (d : Decl) : Bool := decide (100 < (d.name.length : Int)) || decide (150 < (d.dom.length : Int))
def blkBig (b : Blk) : Bool := decide (30 < (b.vars.length : Int)) || (consB b.wh || b.vars.any declBig)
def largeB (m : Mod) : Bool := decide (30 < (m.blocks.length : Int)) || (consB m.goal || m.blocks.any blkBig)
theorem any_false {α : Type} {p : α → Bool} {l : List α} (h : l.any p = false) : ∀ x ∈ l, p x = false := fun x hx => by
 rw [Bool.eq_false_iff]
 intro e
 rw [List.any_eq_true.2 ⟨x, hx, e⟩] at h
 exact Bool.noConfusion h
theorem largeB_ok {m : Mod} (h : largeB m = false) : modOK m := by
 unfold largeB at h
 simp only [Bool.or_eq_false_iff, decide_eq_false_iff_not] at h
 obtain ⟨h1, h2, h3⟩ := h
 have hc := consB_ok h2
 refine ⟨by omega, hc.1, hc.2, fun b hb => ?_⟩
 have hb := any_false h3 b hb
 unfold blkBig at hb
 simp only [Bool.or_eq_false_iff, decide_eq_false_iff_not] at hb
 have hw := consB_ok hb.2.1
 refine ⟨by omega, hw.1, hw.2, fun d hd => ?_⟩
 have hd := any_false hb.2.2 d hd
 unfold declBig at hd
 simp only [Bool.or_eq_false_iff, decide_eq_false_iff_not] at hd
 exact ⟨by omega, by omega⟩
theorem large_l0 (l : List Decl) (hl : l.length ≤ 30) (B N I : V) : ∀ (k i : Nat) (h : List Ob), i + k = l.length →
  ∃ h', evw C y0 i_law08_Large_l0 [(17, B), (18, N), (19, I), (33, declsV l), (34, iv l.length), (35, iv i)] h = some (if (l.drop i).any declBig = true then (.ret, [(2, .bool true)], h') else (.ext 2, [(17, B), (18, N), (19, I), (33, declsV l), (34, iv l.length), (35, iv l.length), (36, .bool false)], h')) := by
 intro k
 induction k with
 | zero =>
  intro i h hi
  have : i = l.length := by omega
  subst this
  refine ⟨h, ?_⟩
  rw [r_law08_Large_0, List.drop_length]
  simp [b_law08_Large_0]
 | succ k ih =>
  intro i h hi
  have hlt : i < l.length := by omega
  have hw := wrap_succ hlt (by omega)
  obtain ⟨h', ih⟩ := ih (i + 1) (h ++ [.row 2 [declV l[i]]]) (by omega)
  simp only [Int.natCast_add, Int.cast_ofNat_Int] at ih
  rw [r_law08_Large_0, List.drop_eq_getElem_cons hlt, List.any_cons]
  by_cases c1 : 100 < (l[i].name.length : Int)
  ·have e : declBig l[i] = true := by simp [declBig, c1]
   refine ⟨h ++ [.row 2 [declV l[i]]], ?_⟩
   simp only [e, Bool.true_or, if_true]
   simp [b_law08_Large_0, hlt, c1]
  by_cases c2 : 150 < (l[i].dom.length : Int)
  ·have e : declBig l[i] = true := by simp [declBig, c2]
   refine ⟨h ++ [.row 2 [declV l[i]]], ?_⟩
   simp only [e, Bool.true_or, if_true]
   simp [b_law08_Large_0, hlt, c1, c2]
  have e : declBig l[i] = false := by simp [declBig, c1, c2]
  refine ⟨h', ?_⟩
  simp only [e, Bool.false_or, ← ih]
  simp [b_law08_Large_0, hlt, c1, c2, hw]
theorem large_l1 (l : List Blk) (hl : l.length ≤ 30) : ∀ (k i : Nat) (h : List Ob), i + k = l.length →
  ∃ h', evw C y0 i_law08_Large_l1 [(17, blksV l), (18, iv l.length), (19, iv i)] h = some (if (l.drop i).any blkBig = true then (.ret, [(2, .bool true)], h') else (.ext 0, [(17, blksV l), (18, iv l.length), (19, iv l.length), (20, .bool false)], h')) := by
 intro k
 induction k with
 | zero =>
  intro i h hi
  have : i = l.length := by omega
  subst this
  refine ⟨h, ?_⟩
  rw [r_law08_Large_1, List.drop_length]
  simp [b_law08_Large_1]
 | succ k ih =>
  intro i h hi
  have hlt : i < l.length := by omega
  have hw := wrap_succ hlt (by omega)
  have k1 := cons l[i].wh
  rw [r_law08_Large_1, List.drop_eq_getElem_cons hlt, List.any_cons]
  by_cases c1 : 30 < (l[i].vars.length : Int)
  ·have e : blkBig l[i] = true := by simp [blkBig, c1]
   refine ⟨h ++ [.row 3 [blkV l[i]]], ?_⟩
   simp only [e, Bool.true_or, if_true]
   simp [b_law08_Large_1, hlt, c1]
  rcases Bool.eq_false_or_eq_true (consB l[i].wh) with c2 | c2 <;> rw [c2] at k1
  ·have e : blkBig l[i] = true := by simp [blkBig, c2]
   refine ⟨h ++ [.row 3 [blkV l[i]]], ?_⟩
   simp only [e, Bool.true_or, if_true]
   simp [b_law08_Large_1, hlt, c1, k1]
  obtain ⟨h1, k2⟩ := large_l0 l[i].vars (by omega) (blksV l) (iv l.length) (iv i) l[i].vars.length 0 (h ++ [.row 3 [blkV l[i]]]) (by omega)
  simp only [List.drop_zero, Int.cast_ofNat_Int] at k2
  rcases Bool.eq_false_or_eq_true (l[i].vars.any declBig) with c3 | c3 <;> simp only [c3, Bool.false_eq_true, if_true, if_false] at k2
  ·have e : blkBig l[i] = true := by simp only [blkBig, c3, Bool.or_true]
   refine ⟨h1, ?_⟩
   simp only [e, Bool.true_or, if_true]
   simp [b_law08_Large_1, hlt, c1, k1, k2]
  ·have e : blkBig l[i] = false := by simp only [blkBig, c2, c3, decide_eq_false c1, Bool.or_false]
   obtain ⟨h', ih⟩ := ih (i + 1) h1 (by omega)
   simp only [Int.natCast_add, Int.cast_ofNat_Int] at ih
   refine ⟨h', ?_⟩
   simp only [e, Bool.false_or, ← ih]
   simp [b_law08_Large_1, hlt, c1, k1, k2, hw]
theorem large (m : Mod) (h : List Ob) : acw C n_law08_Large [modV m] h = some (.ret (.bool (largeB m)), h) := by
 have k1 := cons m.goal
 refine acw_ex (v := .bool (largeB m)) (CT T_law08_Large) rfl rfl (fun _ => rfl) (by simp) ?_
 unfold largeB
 by_cases c : 30 < (m.blocks.length : Int)
 ·simp [runW_fin, F_law08_Large, i_law08_Large, c]
 rcases Bool.eq_false_or_eq_true (consB m.goal) with c2 | c2 <;> rw [c2] at k1
 ·simp [runW_fin, F_law08_Large, i_law08_Large, c, c2, k1]
 ·obtain ⟨h', e⟩ := large_l1 m.blocks (by omega) m.blocks.length 0 [.row 2 [modV m]] (by omega)
  simp only [List.drop_zero, Int.cast_ofNat_Int] at e
  simp only [decide_eq_false c, Bool.false_or]
  rcases Bool.eq_false_or_eq_true (m.blocks.any blkBig) with b | b <;> simp only [b, Bool.false_eq_true, if_true, if_false] at e <;> simp only [b]
  ·simp [runW_fin, F_law08_Large, i_law08_Large, c, c2, k1, e]
  ·simp [runW_fin, F_law08_Large, i_law08_Large, c, c2, k1, e]
end Go.RR.M
set_option linter.unusedVariables false
set_option linter.unusedSimpArgs false
set_option maxRecDepth 100000
namespace Go.RR.M
open Go Go.RR
theorem checkB_zero {m : Mod} : checkB m = 0 ↔ bigB m = false ∧ (decide ((m.blocks.length : Int) = 0) || (m.blocks.any fun b => decide ((b.vars.length : Int) = 0))) = false ∧ ((varsOf m.blocks).any fun d => !nameB d.name) = false ∧ twB [] (varsOf m.blocks) = false ∧ (varsOf m.blocks).any argB = false ∧ wrongB m = false := by
 unfold checkB
 constructor
 ·intro h
  split at h
  ·exact absurd h (by decide)
  rename_i h1
  split at h
  ·exact absurd h (by decide)
  rename_i h2
  split at h
  ·exact absurd h (by decide)
  rename_i h3
  split at h
  ·exact absurd h (by decide)
  rename_i h4
  split at h
  ·exact absurd h (by decide)
  rename_i h5
  split at h
  ·exact absurd h (by decide)
  rename_i h6
  exact ⟨Bool.eq_false_iff.2 h1, Bool.eq_false_iff.2 h2, Bool.eq_false_iff.2 h3, Bool.eq_false_iff.2 h4, Bool.eq_false_iff.2 h5, Bool.eq_false_iff.2 h6⟩
 ·rintro ⟨h1, h2, h3, h4, h5, h6⟩
  simp only [h1, h2, h3, h4, h5, h6, Bool.false_eq_true, if_false]
end Go.RR.M
