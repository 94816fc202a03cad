/- The second reading's table for this seat: the functions that are known by the library's contracts. -/
import Derived.Test.YtkbdlifjhcmgbaaR5
import Derived.Test.YtkbdlifjhcmgbaaRIs
set_option linter.unusedVariables false
set_option linter.unusedSimpArgs false
set_option linter.unusedVariables false
set_option linter.unusedSimpArgs false
set_option maxRecDepth 100000
namespace Go.RR.M
open Go Go.RR
def S (f : Nat) (a : List V) : Option V := none
def H (f : Nat) (a : List V) (h : List Ob) : Option (Out × List Ob) :=
  if f = n_slices_Sort_sint_int then sortH a h
  else if f = n_slices_Compact_sint_int then compH a h
  else if f = n_slices_Grow_sapi_Span_api_Span then growH 2 a h
  else none
def C : Cx := ⟨T, S, H⟩
theorem CT {f : Nat} {F : F} (h : T f = some F) : C.T f = some F := h
end Go.RR.M
set_option maxRecDepth 100000
namespace Go.RR.M
open Go Go.RR
theorem awake0 (n : Nat) (h : List Ob) : acall C (n + 120) n_law03_awake [] h = some (.ret (.bool true), h) := by kernel_rfl
theorem awake (h : List Ob) : acw C n_law03_awake [] h = some (.ret (.bool true), h) := acall_acw 120 _ _ _ _ (awake0 0 h)
end Go.RR.M
set_option linter.unusedVariables false
set_option linter.unusedSimpArgs false
set_option maxRecDepth 100000
set_option maxHeartbeats 4000000
namespace Go.RR.M
open Go Go.RR
abbrev iv (n : Int) : V := .int .i64 n
/-- a list, one by one -/
theorem val_loop (Y : Yl) (y : Nat) (l : List Int) (hl : l.length ≤ 1000000000000) (H : Nat → List Ob) (hY : ∀ i (hi : i < l.length), Y [.mp y, iv l[i]] (H i) = some (.ret (.bool true), H (i + 1))) : ∀ k i, i + k = l.length →
    evw C Y i_slices_Values_sint_int_1_l0 [(0, .mp y), (5, intsV l), (6, iv l.length), (7, iv i)] (H i) = some (.ext 0, [(0, .mp y), (5, intsV l), (6, iv l.length), (7, iv l.length), (8, .bool false)], H l.length)
  | 0, i, e => by
    obtain rfl : i = l.length := by omega
    rw [r_slices_Values_sint_int_1_0]
    simp [b_slices_Values_sint_int_1_0]
  | k + 1, i, e => by
    have hlt : i < l.length := by omega
    have ih := val_loop Y y l hl H hY k (i + 1) (by omega)
    rw [r_slices_Values_sint_int_1_0]
    have h2 : (i : Int) < l.length := by omega
    have h3 : l[i]? = some l[i] := by simp [hlt]
    simp only [Int.natCast_add, Int.cast_ofNat_Int] at ih
    have hw := wrap_succ (i := i) (n := l.length) hlt (by omega)
    simp [b_slices_Values_sint_int_1_0, h2, h3, hw, hY i hlt]
    exact ih
theorem val_iter (Y : Yl) (y : Nat) (l : List Int) (hl : l.length ≤ 1000000000000) (H : Nat → List Ob) (hY : ∀ i (hi : i < l.length), Y [.mp y, iv l[i]] (H i) = some (.ret (.bool true), H (i + 1))) :
    itw C Y n_slices_Values_sint_int_1 [.mp y, .pin (intsV l) 0] (H 0) = some (.ret (.tup []), H l.length) := by
  rw [itw_T (CT T_slices_Values_sint_int_1)]
  have h0 := val_loop Y y l hl H hY l.length 0 (by omega)
  simp only [Int.cast_ofNat_Int] at h0
  simp [runW_fin, F_slices_Values_sint_int_1, i_slices_Values_sint_int_1, h0]
theorem values (l : List Int) (h : List Ob) : acw C n_slices_Values_sint_int [intsV l] h = some (.ret (.fn (.func n_slices_Values_sint_int_1) [] [.pin (intsV l) 0]), h) := by
  refine acw_pure (a2 := [intsV l]) (h' := [.row 1 [intsV l]]) (v := .fn (.func n_slices_Values_sint_int_1) [] [.ptr 0 0 0 1]) (v' := .fn (.func n_slices_Values_sint_int_1) [] [.pin (intsV l) 0]) (CT T_slices_Values_sint_int) rfl rfl ?_ (frz_box (by rfl) rfl) (by simp)
  simp [runW_fin, F_slices_Values_sint_int, i_slices_Values_sint_int]
abbrev accS (xs : List V) : List Ob := accH 1 [.row 1 [accV 1 2 xs], .lp .rdy] xs
theorem app_round (f : V) (xs : List V) (n : Int) (hx : xs.length ≤ 1000000000000) : rnd (evw C y0 ra_slices_AppendSeq_sint_int_0) (evw C y0 rb_slices_AppendSeq_sint_int_0) 1 [7] [(2, .ptr 0 0 0 1), (4, .nsl 1), (6, f)] [.mp 1, iv n] (accS xs) = some (.ret (.bool true), accS (xs ++ [iv n])) := by
  have k4 : bsfL (.int .i64 0) [iv n] = some (.sl 1 [iv n]) := rfl
  cases xs with
  | nil =>
    have k5 : ∀ nid, appV nid [.row 1 [.nsl 1], .lp .bsy] 1 8 (.nsl 1) (.sl 1 [iv n]) = some (.own nid 0 1 1, some (nid, .row 1 [iv n])) := fun nid => appV_nsl rfl (by simp) rfl (by simp) (by simp)
    simp [accV, accH, ra_slices_AppendSeq_sint_int_0, rb_slices_AppendSeq_sint_int_0, k4, k5]
  | cons a r =>
    have k5 : ∀ nid, appV nid [.row 1 [.own 2 0 (r.length + 1) (r.length + 1)], .lp .bsy, .row 1 (a :: r)] 1 8 (.own 2 0 (r.length + 1) (r.length + 1)) (.sl 1 [iv n]) = some (.own 2 0 (r.length + 1 + 1) (r.length + 1 + 1), some (2, .row 1 (a :: r ++ [iv n]))) := fun nid => appV_own rfl (by simp) rfl (by simp) (by simp) (by simp at hx ⊢; omega) (by simp at hx ⊢; omega)
    simp [accV, accH, ra_slices_AppendSeq_sint_int_0, rb_slices_AppendSeq_sint_int_0, k4, k5]
theorem appendSeq (l : List Int) (hl : l.length ≤ 1000000000000) : acw C n_slices_AppendSeq_sint_int [.nsl 1, .fn (.func n_slices_Values_sint_int_1) [] [.pin (intsV l) 0]] [] =
    some (.ret (accV 1 2 (l.map (V.int .i64))), accH 1 [.row 1 [accV 1 2 (l.map (V.int .i64))], .dead] (l.map (V.int .i64))) := by
  rw [acw_hm (CT T_slices_AppendSeq_sint_int) rfl]
  have key := val_iter (rnd (evw C y0 ra_slices_AppendSeq_sint_int_0) (evw C y0 rb_slices_AppendSeq_sint_int_0) 1 [7] [(2, .ptr 0 0 0 1), (4, .nsl 1), (6, .fn (.func n_slices_Values_sint_int_1) [] [.pin (intsV l) 0])]) 1 l hl (fun i => accS ((l.map (V.int .i64)).take i)) (fun i hi => by
    have := app_round (.fn (.func n_slices_Values_sint_int_1) [] [.pin (intsV l) 0]) ((l.map (V.int .i64)).take i) l[i] (by simp; omega)
    rw [this, List.take_succ_eq_append_getElem (by simpa using hi)]
    simp)
  have e0 : List.take l.length (l.map (V.int .i64)) = l.map (V.int .i64) := by rw [show l.length = (l.map (V.int .i64)).length by simp]; exact List.take_length
  simp only [e0, List.take_zero] at key
  by_cases e : l = []
  · subst e
    simp [accV, accH] at key
    simp [runW_fin, F_slices_AppendSeq_sint_int, i_slices_AppendSeq_sint_int, key, accV, accH]
  · simp [accV, accH, e] at key
    simp [runW_fin, F_slices_AppendSeq_sint_int, i_slices_AppendSeq_sint_int, key, accV, accH, e]
theorem collect (l : List Int) (hl : l.length ≤ 1000000000000) : acw C n_slices_Collect_int [.fn (.func n_slices_Values_sint_int_1) [] [.pin (intsV l) 0]] [] =
    some (.ret (accV 1 2 (l.map (V.int .i64))), accH 1 [.row 1 [accV 1 2 (l.map (V.int .i64))], .dead] (l.map (V.int .i64))) := by
  rw [acw_hm (CT T_slices_Collect_int) rfl]
  simp [runW_fin, F_slices_Collect_int, i_slices_Collect_int, appendSeq l hl]
theorem sorted (l : List Int) (hl : l.length ≤ 1000000000000) (h : List Ob) : acw C n_slices_Sorted_int [.fn (.func n_slices_Values_sint_int_1) [] [.pin (intsV l) 0]] h = some (.ret (intsV (sortI l)), h) := by
  have hc := collect l hl
  by_cases e : l = []
  · subst e
    simp [accV, accH] at hc
    have h1 : ∀ h, acw C n_slices_Sort_sint_int [.nsl 1] h = some (.ret (.tup []), h) := fun h => acw_H rfl rfl
    refine acw_pure (a2 := [.fn (.func n_slices_Values_sint_int_1) [] [.pin (intsV []) 0]]) (h' := [.row 1 [.nsl 1], .dead]) (v := .nsl 1) (CT T_slices_Sorted_int) rfl rfl ?_ rfl (by simp)
    simp [runW_fin, F_slices_Sorted_int, i_slices_Sorted_int, hc, h1]
  · simp [accV, accH, e] at hc
    have hp : 0 < l.length := List.length_pos_iff.2 e
    have hs : (sortI l).length = l.length := sortI_length l
    have h1 : acw C n_slices_Sort_sint_int [.own 2 0 l.length l.length] [.row 1 [.own 2 0 l.length l.length], .dead, .row 1 (l.map (V.int .i64))] = some (.ret (.tup []), [.row 1 [.own 2 0 l.length l.length], .dead, .row 1 ((sortI l).map (V.int .i64))]) := acw_H rfl (by
      simp only [C, H, if_true, sortH, List.getElem?_cons_succ, List.getElem?_cons_zero, ints_map, List.length_map, true_and]
      rw [if_pos (by omega)]
      rfl)
    refine acw_pure (a2 := [.fn (.func n_slices_Values_sint_int_1) [] [.pin (intsV l) 0]]) (h' := [.row 1 [.own 2 0 l.length l.length], .dead, .row 1 ((sortI l).map (V.int .i64))]) (v := .own 2 0 l.length l.length) (CT T_slices_Sorted_int) rfl rfl ?_ (frz_own_ints rfl hs.symm 10) (by simp)
    simp [runW_fin, F_slices_Sorted_int, i_slices_Sorted_int, hc, h1]
end Go.RR.M
set_option linter.unusedVariables false
set_option linter.unusedSimpArgs false
set_option maxRecDepth 100000
namespace Go.RR.M
open Go Go.RR
theorem spans_Right_loop (l : List Sp) (hl : l.length ≤ 4611686018427387904) : ∀ (d i : Nat) (p : Option Int) (h : List Ob), i + d = l.length → (∀ (hi : 0 < i) (hi' : i - 1 < l.length), p = some l[i - 1].hi ∧ -1048576 ≤ l[i - 1].hi ∧ l[i - 1].hi ≤ 1048576) → (i = 0 → p = none) →
    ∃ fr' h', evw C y0 i_spans_Right_l0 [(0, spsV l), (5, spsV l), (6, .int .i64 l.length), (7, .int .i64 i)] h =
      some (if spR p (l.drop i) = true then (.ext 0, fr', h') else (.ret, [(2, .bool false)], h')) := by
  intro d
  induction d with
  | zero =>
    intro i p h hi hp h0
    have : i = l.length := by omega
    subst this
    rw [r_spans_Right_0, List.drop_length]
    refine ⟨[(0, spsV l), (5, spsV l), (6, .int .i64 l.length), (7, .int .i64 l.length), (8, .bool false)], h, ?_⟩
    simp [b_spans_Right_0, spR, spsV]
  | succ d ih =>
    intro i p h hi hp h0
    have hlt : i < l.length := by omega
    have hw := wrap_succ hlt (by omega)
    rw [r_spans_Right_0, List.drop_eq_getElem_cons hlt]
    simp only [spR]
    by_cases c1 : l[i].hi < l[i].lo
    · have c1' : ¬ (l[i].lo ≤ l[i].hi) := by omega
      exact ⟨[], h ++ [.row 2 [spV l[i]]], by simp [b_spans_Right_0, spsV, spV, hlt, c1, c1']⟩
    have c1' : l[i].lo ≤ l[i].hi := by omega
    by_cases c2 : l[i].lo < -1048576
    · have c2' : ¬ (-1048576 ≤ l[i].lo) := by omega
      exact ⟨[], h ++ [.row 2 [spV l[i]]], by simp [b_spans_Right_0, spsV, spV, hlt, c1, c1', c2, c2']⟩
    have c2' : -1048576 ≤ l[i].lo := by omega
    by_cases c3 : 1048576 < l[i].hi
    · have c3' : ¬ (l[i].hi ≤ 1048576) := by omega
      exact ⟨[], h ++ [.row 2 [spV l[i]]], by simp [b_spans_Right_0, spsV, spV, hlt, c1, c1', c2, c2', c3, c3']⟩
    have c3' : l[i].hi ≤ 1048576 := by omega
    obtain ⟨fr', h', ih⟩ := ih (i + 1) (some l[i].hi) (h ++ [.row 2 [spV l[i]]]) (by omega) (fun _ _ => ⟨by simp, by simp; omega, by simpa using c3'⟩) (by omega)
    simp only [Int.natCast_add, Int.cast_ofNat_Int, spsV, spV] at ih
    by_cases c4 : 0 < i
    · have hlt' : i - 1 < l.length := by omega
      obtain ⟨hp1, hp2, hp3⟩ := hp c4 hlt'
      subst hp1
      have w1 : IntKind.i64.wrap (l[i - 1].hi + 1) = l[i - 1].hi + 1 := wrap64 (by omega) (by omega)
      have w2 : IntKind.i64.wrap ((i : Int) - 1) = ((i - 1 : Nat) : Int) := by rw [wrap64 (by omega) (by omega)]; omega
      by_cases c5 : l[i].lo ≤ l[i - 1].hi + 1
      · have c5' : ¬ (l[i - 1].hi + 1 < l[i].lo) := by omega
        exact ⟨[], h ++ [.row 2 [spV l[i]]], by simp [b_spans_Right_0, spsV, spV, hlt, c1, c1', c2, c2', c3, c3', c4, w1, w2, hlt', c5, c5']⟩
      · have c5' : l[i - 1].hi + 1 < l[i].lo := by omega
        refine ⟨fr', h', ?_⟩
        simp only [c1', c2', c3', c5', decide_true, Bool.true_and, ← ih]
        simp [b_spans_Right_0, spsV, spV, hlt, c1, c1', c2, c2', c3, c3', c4, w1, w2, hlt', c5, hw]
    · have hi0 : i = 0 := by omega
      have hp0 := h0 hi0
      subst hp0
      refine ⟨fr', h', ?_⟩
      simp only [c1', c2', c3', decide_true, Bool.true_and, ← ih]
      simp [b_spans_Right_0, spsV, spV, hlt, c1, c1', c2, c2', c3, c3', c4, hw]
theorem spans_Right (l : List Sp) (hl : l.length ≤ 4611686018427387904) (h : List Ob) : acw C n_spans_Right [spsV l] h = some (.ret (.bool (spR none l)), h) := by
  obtain ⟨fr', h', hloop⟩ := spans_Right_loop l hl l.length 0 none [] (by omega) (fun h => absurd h (by omega)) (fun _ => rfl)
  refine acw_pure (a2 := [spsV l]) (h' := h') (v := .bool (spR none l)) (CT T_spans_Right) rfl rfl ?_ rfl (by simp)
  simp only [List.drop_zero, Int.cast_ofNat_Int] at hloop
  rcases Bool.eq_false_or_eq_true (spR none l) with hb | hb
  · simp only [hb, if_true, spsV] at hloop
    simp [runW_fin, F_spans_Right, i_spans_Right, hb, hloop, spsV]
  · simp only [hb, Bool.false_eq_true, if_false, spsV] at hloop
    simp [runW_fin, F_spans_Right, i_spans_Right, hb, hloop, spsV]
end Go.RR.M
set_option linter.unusedVariables false
set_option linter.unusedSimpArgs false
set_option maxRecDepth 100000
namespace Go.RR
def spS : List Sp → Int
  | [] => 0
  | s :: r => (s.hi - s.lo + 1) + spS r
theorem spR_all : ∀ {l : List Sp} {p : Option Int}, spR p l = true → ∀ s ∈ l, s.lo ≤ s.hi ∧ -1048576 ≤ s.lo ∧ s.hi ≤ 1048576
  | [], _, _ => by simp
  | s :: r, p, h => by
    simp only [spR, Bool.and_eq_true, decide_eq_true_eq] at h
    intro x hx
    rcases List.mem_cons.1 hx with rfl | hx
    · exact ⟨h.1.1.1.1, h.1.1.1.2, h.1.1.2⟩
    · exact spR_all h.2 x hx
theorem spS_nn : ∀ {l : List Sp}, (∀ s ∈ l, s.lo ≤ s.hi ∧ -1048576 ≤ s.lo ∧ s.hi ≤ 1048576) → 0 ≤ spS l
  | [], _ => by simp [spS]
  | s :: r, h => by
    have h1 := h s (by simp)
    have h2 := spS_nn (l := r) fun x hx => h x (by simp [hx])
    simp only [spS]
    omega
theorem spS_le : ∀ {l : List Sp} {q : Int}, spR (some q) l = true → spS l ≤ 1048576 - q ∨ l = []
  | [], _, _ => .inr rfl
  | s :: r, q, h => by
    simp only [spR, Bool.and_eq_true, decide_eq_true_eq] at h
    left
    simp only [spS]
    rcases spS_le h.2 with h2 | rfl
    · omega
    · simp only [spS]; omega
theorem spS_top {l : List Sp} (h : spR none l = true) : 0 ≤ spS l ∧ spS l ≤ 2097153 := by
  refine ⟨spS_nn (spR_all h), ?_⟩
  cases l with
  | nil => simp [spS]
  | cons s r =>
    simp only [spR, Bool.and_eq_true, decide_eq_true_eq] at h
    simp only [spS]
    rcases spS_le h.2 with h2 | rfl
    · omega
    · simp only [spS]; omega
def spN (l : List Sp) : Int := if spR none l = true then spS l else 0
theorem spN_top (l : List Sp) : 0 ≤ spN l ∧ spN l ≤ 2097153 := by
  unfold spN
  split
  · rename_i h; exact spS_top h
  · omega
end Go.RR
namespace Go.RR.M
open Go Go.RR
theorem spans_Size_loop (l : List Sp) (hl : l.length ≤ 4611686018427387904) (hb : ∀ s ∈ l, s.lo ≤ s.hi ∧ -1048576 ≤ s.lo ∧ s.hi ≤ 1048576) : ∀ (d i : Nat) (n : Int) (h : List Ob), i + d = l.length → 0 ≤ n → n + spS (l.drop i) ≤ 2097153 →
    ∃ fr' h', evw C y0 i_spans_Size_l0 [(3, .int .i64 n), (9, spsV l), (10, .int .i64 l.length), (11, .int .i64 i)] h = some (.ext 0, fr', h') ∧ get fr' 3 = .int .i64 (n + spS (l.drop i)) := by
  intro d
  induction d with
  | zero =>
    intro i n h hi h0 hn
    have : i = l.length := by omega
    subst this
    rw [r_spans_Size_0, List.drop_length]
    exact ⟨[(3, .int .i64 n), (9, spsV l), (10, .int .i64 l.length), (11, .int .i64 l.length), (12, .bool false)], h, by simp [b_spans_Size_0, spsV], by simp [spS]⟩
  | succ d ih =>
    intro i n h hi h0 hn
    have hlt : i < l.length := by omega
    have hw := wrap_succ hlt (by omega)
    have hs := hb _ (List.getElem_mem hlt)
    have hnn := spS_nn (l := l.drop (i + 1)) fun s hs => hb s (List.mem_of_mem_drop hs)
    rw [List.drop_eq_getElem_cons hlt] at hn ⊢
    simp only [spS] at hn ⊢
    obtain ⟨fr', h', ih1, ih2⟩ := ih (i + 1) (n + (l[i].hi - l[i].lo + 1)) (h ++ [.row 2 [spV l[i]]]) (by omega) (by omega) (by omega)
    refine ⟨fr', h', ?_, by rw [ih2]; congr 1; omega⟩
    rw [r_spans_Size_0, ← ih1]
    have w1 : IntKind.i64.wrap (l[i].hi - l[i].lo) = l[i].hi - l[i].lo := wrap64 (by omega) (by omega)
    have w2 : IntKind.i64.wrap (l[i].hi - l[i].lo + 1) = l[i].hi - l[i].lo + 1 := wrap64 (by omega) (by omega)
    have w3 : IntKind.i64.wrap (n + (l[i].hi - l[i].lo + 1)) = n + (l[i].hi - l[i].lo + 1) := wrap64 (by omega) (by omega)
    simp [b_spans_Size_0, spsV, spV, hlt, hw, w1, w2, w3]
theorem spans_Size (l : List Sp) (hl : l.length ≤ 4611686018427387904) (h : List Ob) : acw C n_spans_Size [spsV l] h = some (.ret (.int .i64 (spN l)), h) := by
  have hr := spans_Right l hl
  unfold spN
  rcases Bool.eq_false_or_eq_true (spR none l) with hb | hb
  · have ht := spS_top hb
    obtain ⟨fr', h', l1, l2⟩ := spans_Size_loop l hl (spR_all hb) l.length 0 0 [] (by omega) (by omega) (by simp; omega)
    simp only [List.drop_zero, Int.cast_ofNat_Int, Int.zero_add] at l1 l2
    refine acw_pure (h' := h') (v := .int .i64 (spS l)) (CT T_spans_Size) rfl rfl ?_ (by simp only [hb, if_true]; rfl) (by simp [hb])
    simp only [spsV] at l1 hr
    simp [runW_fin, F_spans_Size, i_spans_Size, hr, hb, l1, l2, spsV]
  · refine acw_pure (h' := []) (v := .int .i64 0) (CT T_spans_Size) rfl rfl ?_ (by simp only [hb]; rfl) (by simp [hb])
    simp only [spsV] at hr
    simp [runW_fin, F_spans_Size, i_spans_Size, hr, hb, spsV]
theorem ref03_Right_loop (l : List Sp) (hl : l.length ≤ 4611686018427387904) : ∀ (d i : Nat) (p : Option Int), i + d = l.length → (∀ (hi : 0 < i) (hi' : i - 1 < l.length), p = some l[i - 1].hi ∧ -1048576 ≤ l[i - 1].hi ∧ l[i - 1].hi ≤ 1048576) → (i = 0 → p = none) →
    evw C y0 i_ref03_Right_l0 [(0, spsV l), (3, .int .i64 i)] [] =
      some (if spR p (l.drop i) = true then (.ext 0, [(0, spsV l), (3, .int .i64 l.length), (7, .bool false)], []) else (.ret, [(2, .bool false)], [])) := by
  intro d
  induction d with
  | zero =>
    intro i p hi hp h0
    have : i = l.length := by omega
    subst this
    rw [r_ref03_Right_0, List.drop_length]
    simp [b_ref03_Right_0, spR, spsV]
  | succ d ih =>
    intro i p hi hp h0
    have hlt : i < l.length := by omega
    have hw := wrap_succ hlt (by omega)
    rw [r_ref03_Right_0, List.drop_eq_getElem_cons hlt]
    simp only [spR]
    by_cases c2 : l[i].lo < -1048576
    · have c2' : ¬ (-1048576 ≤ l[i].lo) := by omega
      simp [b_ref03_Right_0, spsV, spV, hlt, c2, c2']
    have c2' : -1048576 ≤ l[i].lo := by omega
    by_cases c3 : 1048576 < l[i].hi
    · have c3' : ¬ (l[i].hi ≤ 1048576) := by omega
      simp [b_ref03_Right_0, spsV, spV, hlt, c2, c2', c3, c3']
    have c3' : l[i].hi ≤ 1048576 := by omega
    by_cases c1 : l[i].hi < l[i].lo
    · have c1' : ¬ (l[i].lo ≤ l[i].hi) := by omega
      simp [b_ref03_Right_0, spsV, spV, hlt, c1, c1', c2, c2', c3, c3']
    have c1' : l[i].lo ≤ l[i].hi := by omega
    have ih := ih (i + 1) (some l[i].hi) (by omega) (fun _ _ => ⟨by simp, by simp; omega, by simpa using c3'⟩) (by omega)
    simp only [Int.natCast_add, Int.cast_ofNat_Int, spsV, spV] at ih
    by_cases c4 : 0 < i
    · have hlt' : i - 1 < l.length := by omega
      obtain ⟨hp1, hp2, hp3⟩ := hp c4 hlt'
      subst hp1
      have w1 : IntKind.i64.wrap (l[i].lo - l[i - 1].hi) = l[i].lo - l[i - 1].hi := wrap64 (by omega) (by omega)
      have w2 : IntKind.i64.wrap ((i : Int) - 1) = ((i - 1 : Nat) : Int) := by rw [wrap64 (by omega) (by omega)]; omega
      by_cases c5 : l[i].lo - l[i - 1].hi < 2
      · have c5' : ¬ (l[i - 1].hi + 1 < l[i].lo) := by omega
        simp [b_ref03_Right_0, spsV, spV, hlt, c1, c1', c2, c2', c3, c3', c4, w1, w2, hlt', c5, c5']
      · have c5' : l[i - 1].hi + 1 < l[i].lo := by omega
        simp only [c1', c2', c3', c5', decide_true, Bool.true_and, spsV, spV, ← ih]
        simp [b_ref03_Right_0, spsV, spV, hlt, c1, c1', c2, c2', c3, c3', c4, w1, w2, hlt', c5, hw]
    · have hi0 : i = 0 := by omega
      have hp0 := h0 hi0
      subst hp0
      simp only [c1', c2', c3', decide_true, Bool.true_and, spsV, spV, ← ih]
      simp [b_ref03_Right_0, spsV, spV, hlt, c1, c1', c2, c2', c3, c3', c4, hw]
theorem ref03_Right (l : List Sp) (hl : l.length ≤ 4611686018427387904) (h : List Ob) : acw C n_ref03_Right [spsV l] h = some (.ret (.bool (spR none l)), h) := by
  have hloop := ref03_Right_loop l hl l.length 0 none (by omega) (fun h => absurd h (by omega)) (fun _ => rfl)
  refine acw_pure (h' := []) (v := .bool (spR none l)) (CT T_ref03_Right) rfl rfl ?_ rfl (by simp)
  simp only [List.drop_zero, Int.cast_ofNat_Int] at hloop
  rcases Bool.eq_false_or_eq_true (spR none l) with hb | hb
  · simp only [hb, if_true, spsV] at hloop
    simp [runW_fin, F_ref03_Right, i_ref03_Right, hb, hloop, spsV]
  · simp only [hb, Bool.false_eq_true, if_false, spsV] at hloop
    simp [runW_fin, F_ref03_Right, i_ref03_Right, hb, hloop, spsV]
theorem ref03_Size_loop (l : List Sp) (hl : l.length ≤ 4611686018427387904) (hr : spR none l = true) (hb : ∀ s ∈ l, s.lo ≤ s.hi ∧ -1048576 ≤ s.lo ∧ s.hi ≤ 1048576) : ∀ (d i : Nat) (n : Int), i + d = l.length → 0 ≤ n → n + spS (l.drop i) ≤ 2097153 →
    ∃ fr', evw C y0 i_ref03_Size_l0 [(0, spsV l), (3, .int .i64 n), (4, .int .i64 i)] [] = some (.ext 0, fr', []) ∧ get fr' 3 = .int .i64 (n + spS (l.drop i)) := by
  intro d
  have hright := ref03_Right l hl
  rw [hr] at hright
  induction d with
  | zero =>
    intro i n hi h0 hn
    have : i = l.length := by omega
    subst this
    rw [r_ref03_Size_0, List.drop_length]
    exact ⟨[(0, spsV l), (3, .int .i64 n), (4, .int .i64 l.length), (12, .bool false)], by simp [b_ref03_Size_0, spsV], by simp [spS]⟩
  | succ d ih =>
    intro i n hi h0 hn
    have hlt : i < l.length := by omega
    have hw := wrap_succ hlt (by omega)
    have hs := hb _ (List.getElem_mem hlt)
    have hnn := spS_nn (l := l.drop (i + 1)) fun s hs => hb s (List.mem_of_mem_drop hs)
    rw [List.drop_eq_getElem_cons hlt] at hn ⊢
    simp only [spS] at hn ⊢
    obtain ⟨fr', ih1, ih2⟩ := ih (i + 1) (n + (l[i].hi - l[i].lo + 1)) (by omega) (by omega) (by omega)
    refine ⟨fr', ?_, by rw [ih2]; congr 1; omega⟩
    rw [r_ref03_Size_0, ← ih1]
    have w1 : IntKind.i64.wrap (n + l[i].hi) = n + l[i].hi := wrap64 (by omega) (by omega)
    have w2 : IntKind.i64.wrap (n + l[i].hi + 1) = n + l[i].hi + 1 := wrap64 (by omega) (by omega)
    have w3 : IntKind.i64.wrap (n + l[i].hi + 1 - l[i].lo) = n + (l[i].hi - l[i].lo + 1) := by rw [wrap64 (by omega) (by omega)]; omega
    simp only [spsV] at hright
    simp [b_ref03_Size_0, spsV, spV, hlt, hw, w1, w2, w3, hright]
theorem ref03_Size (l : List Sp) (hl : l.length ≤ 4611686018427387904) (h : List Ob) : acw C n_ref03_Size [spsV l] h = some (.ret (.int .i64 (spN l)), h) := by
  have hr := ref03_Right l hl
  unfold spN
  rcases Bool.eq_false_or_eq_true (spR none l) with hb | hb
  · have ht := spS_top hb
    obtain ⟨fr', l1, l2⟩ := ref03_Size_loop l hl hb (spR_all hb) l.length 0 0 (by omega) (by omega) (by simp; omega)
    simp only [List.drop_zero, Int.cast_ofNat_Int, Int.zero_add] at l1 l2
    refine acw_pure (h' := []) (v := .int .i64 (spS l)) (CT T_ref03_Size) rfl rfl ?_ (by simp only [hb, if_true]; rfl) (by simp [hb])
    simp only [spsV] at l1 hr
    simp [runW_fin, F_ref03_Size, i_ref03_Size, hr, hb, l1, l2, spsV]
  · refine acw_pure (h' := []) (v := .int .i64 0) (CT T_ref03_Size) rfl rfl ?_ (by simp only [hb]; rfl) (by simp [hb])
    simp only [spsV] at hr
    by_cases hn : 0 < l.length
    · have hl0 : evw C y0 i_ref03_Size_l0 [(0, .sl 2 (l.map spV)), (3, .int .i64 0), (4, .int .i64 0)] [] = some (.ext 0, [(0, .sl 2 (l.map spV)), (3, .int .i64 0), (4, .int .i64 0), (12, .bool false)], []) := by
        rw [r_ref03_Size_0]
        simp [b_ref03_Size_0, hr, hb, hn]
      simp [runW_fin, F_ref03_Size, i_ref03_Size, hl0, spsV]
    · have : l = [] := List.length_eq_zero_iff.1 (by omega)
      subst this
      simp [spR] at hb
theorem eq_sp {cr : CallR} {d s t : Nat} {fr : Fr} {h : List Ob} {a b : Sp} : (eqvs [(0, 1, Q.int), (1, 1, Q.int)] [.int .i64 a.lo, .int .i64 a.hi] [.int .i64 b.lo, .int .i64 b.hi]) = some (decide (a = b)) := by
  obtain ⟨a1, a2⟩ := a
  obtain ⟨b1, b2⟩ := b
  simp only [eqvs_cons, qAgg, part_one, ob_some, List.getElem?_cons_zero, List.getElem?_cons_succ, eqr_int, if_true, eqvs_nil, Sp.mk.injEq]
  have e1 : (a1 == b1) = decide (a1 = b1) := by by_cases h : a1 = b1 <;> simp [h]
  have e2 : (a2 == b2) = decide (a2 = b2) := by by_cases h : a2 = b2 <;> simp [h]
  rw [e1, e2]
  by_cases h1 : a1 = b1 <;> by_cases h2 : a2 = b2 <;> simp [h1, h2]
theorem ref03_Same_loop (l m : List Sp) (hlm : l.length = m.length) (hl : l.length ≤ 4611686018427387904) : ∀ (d i : Nat), i + d = l.length →
    evw C y0 i_ref03_Same_l0 [(0, spsV l), (1, spsV m), (5, .int .i64 i)] [] =
      some (if l.drop i = m.drop i then (.ext 0, [(0, spsV l), (1, spsV m), (5, .int .i64 l.length), (14, .bool false)], []) else (.ret, [(4, .bool false)], [])) := by
  intro d
  induction d with
  | zero =>
    intro i hi
    have : i = l.length := by omega
    subst this
    rw [r_ref03_Same_0, List.drop_length, hlm, List.drop_length]
    simp [b_ref03_Same_0, spsV, hlm]
  | succ d ih =>
    intro i hi
    have hlt : i < l.length := by omega
    have hlt' : i < m.length := by omega
    have hw := wrap_succ hlt (by omega)
    have ih := ih (i + 1) (by omega)
    simp only [Int.natCast_add, Int.cast_ofNat_Int, spsV] at ih
    have he := @eq_sp (crw C y0) 0 0 0 [] [] l[i] m[i]
    rw [r_ref03_Same_0, List.drop_eq_getElem_cons hlt, List.drop_eq_getElem_cons hlt']
    by_cases hab : l[i] = m[i]
    · simp only [hab, List.cons.injEq, true_and, spsV, ← ih]
      simp only [hab, decide_true] at he
      simp [b_ref03_Same_0, spsV, spV, hlt, hlt', he, hw, hab]
    · simp only [hab, decide_false] at he
      simp only [List.cons.injEq, hab, false_and, if_false]
      simp [b_ref03_Same_0, spsV, spV, hlt, hlt', he]
theorem ref03_Same (l m : List Sp) (hl : l.length ≤ 4611686018427387904) (h : List Ob) : acw C n_ref03_Same [spsV l, spsV m] h = some (.ret (.bool (decide (l = m))), h) := by
  refine acw_pure (h' := []) (v := .bool (decide (l = m))) (CT T_ref03_Same) rfl rfl ?_ rfl (by simp)
  by_cases hlm : l.length = m.length
  · have hloop := ref03_Same_loop l m hlm hl l.length 0 (by omega)
    simp only [List.drop_zero, Int.cast_ofNat_Int] at hloop
    by_cases hb : l = m
    · simp only [hb, if_true, spsV] at hloop
      simp [runW_fin, F_ref03_Same, i_ref03_Same, hb, hloop, spsV]
    · simp only [hb, if_false, spsV] at hloop
      simp [runW_fin, F_ref03_Same, i_ref03_Same, hb, hloop, spsV, hlm]
  · have h2 : ¬ ((l.length : Int) = m.length) := by omega
    have h3 : ((l.length : Int) != m.length) = true := by simpa using h2
    have h4 : ¬ (l = m) := fun e => hlm (by rw [e])
    simp [runW_fin, F_ref03_Same, i_ref03_Same, h2, h3, h4, spsV]
end Go.RR.M
set_option linter.unusedVariables false
set_option linter.unusedSimpArgs false
set_option maxRecDepth 100000
set_option maxHeartbeats 4000000
namespace Go.RR
/-- a span behind others -/
def putS (l : List Sp) (s : Sp) : List Sp := match l.getLast? with
  | some t => if s.lo ≤ t.hi + 1 then l.dropLast ++ [⟨t.lo, max t.hi s.hi⟩] else l ++ [s]
  | none => [s]
theorem putS_nil (s : Sp) : putS [] s = [s] := rfl
theorem putS_end (pre : List Sp) (t s : Sp) : putS (pre ++ [t]) s = if s.lo ≤ t.hi + 1 then pre ++ [⟨t.lo, max t.hi s.hi⟩] else pre ++ [t] ++ [s] := by
  unfold putS
  rw [List.getLast?_append]
  simp
theorem max_ite (a b : Int) : (if a < b then b else a) = max a b := by omega
end Go.RR
namespace Go.RR.M
open Go Go.RR
theorem put_nil (s : Sp) (h : List Ob) : acw C n_spans_put [.nsl 2, spV s] h = some (.ret (.own (h.length + 1) 0 1 1), h ++ [.row 2 [spV s], .row 2 [spV s]]) := by
  rw [acw_hm (CT T_spans_put) rfl]
  have k4 : bsfL (.agg [.int .i64 0, .int .i64 0]) [spV s] = some (.sl 2 [spV s]) := rfl
  have k5 : ∀ h nid, appV nid h 2 16 (.nsl 2) (.sl 2 [spV s]) = some (.own nid 0 1 1, some (nid, .row 2 [spV s])) := fun h nid => appV_nsl rfl (by simp) rfl (by omega) (by omega)
  have k6 : wr (h ++ [.row 2 [spV s]]) (some (h.length + 1, .row 2 [spV s])) = h ++ [.row 2 [spV s], .row 2 [spV s]] := by
    simp [wr]
  simp only [spV] at k4 k5 k6 ⊢
  simp [runW_fin, F_spans_put, i_spans_put, k4, k5, k6]
theorem put_own (pre : List Sp) (t s : Sp) (id n : Nat) (h : List Ob) (hn : n = pre.length + 1) (hl : pre.length ≤ 1000000) (e : h[id]? = some (.row 2 (pre.map spV ++ [spV t]))) (ht : -1099511627776 ≤ t.hi ∧ t.hi ≤ 1099511627776) :
    ∃ m h', acw C n_spans_put [.own id 0 n n, spV s] h = some (.ret (.own id 0 m m), h') ∧ m = (putS (pre ++ [t]) s).length ∧ h'[id]? = some (.row 2 ((putS (pre ++ [t]) s).map spV)) ∧ ∀ j, j < h.length → j ≠ id → h'[j]? = h[j]? := by
  rw [acw_hm (CT T_spans_put) rfl]
  have hid := (List.getElem?_eq_some_iff.1 e).1
  have e' : (h ++ [Ob.row 2 [spV s]])[id]? = some (.row 2 (pre.map spV ++ [spV t])) := get_some e
  have hw1 : IntKind.i64.wrap (pre.length : Int) = pre.length := wrap64 (by omega) (by omega)
  have hp2 : (pre.length : Int) < pre.length + 1 := by omega
  have hw2 : IntKind.i64.wrap (t.hi + 1) = t.hi + 1 := wrap64 (by omega) (by omega)
  have hp : (0 : Int) < pre.length + 1 := by omega
  have hg : (pre.map spV ++ [spV t])[pre.length]? = some (spV t) := by simp
  subst hn
  rw [putS_end]
  simp only [spV] at e' hg ⊢
  by_cases c : s.lo ≤ t.hi + 1
  · rw [if_pos c]
    refine ⟨pre.length + 1, (h ++ [Ob.row 2 [spV s]]).set id (.row 2 (pre.map spV ++ [spV ⟨t.lo, max t.hi s.hi⟩])), ?_, by simp, ?_, fun j hj hne => by rw [List.getElem?_set_ne (Ne.symm hne), get_lt hj]⟩
    · have k6 := wr_lt (h := h ++ [Ob.row 2 [spV s]]) (i := id) (o := .row 2 (pre.map spV ++ [spV ⟨t.lo, max t.hi s.hi⟩])) (by simp; omega)
      simp only [spV] at k6
      simp [runW_fin, F_spans_put, i_spans_put, e', hg, hw1, hw2, hp, hp2, c, max_ite, k6]
    · rw [List.getElem?_set_self (by simp; omega)]
      simp
  · rw [if_neg c]
    have k4 : bsfL (.agg [.int .i64 0, .int .i64 0]) [spV s] = some (.sl 2 [spV s]) := rfl
    refine ⟨pre.length + 1 + 1, (h ++ [Ob.row 2 [spV s]]).set id (.row 2 (pre.map spV ++ [spV t, spV s])), ?_, by simp, ?_, fun j hj hne => by rw [List.getElem?_set_ne (Ne.symm hne), get_lt hj]⟩
    · have k5 : ∀ nid, appV nid (h ++ [.row 2 [spV s]]) 2 16 (.own id 0 (pre.length + 1) (pre.length + 1)) (.sl 2 [spV s]) = some (.own id 0 (pre.length + 1 + 1) (pre.length + 1 + 1), some (id, .row 2 (pre.map spV ++ [spV t, spV s]))) := fun nid => (by have := appV_own (nid := nid) (b := 16) e' (m := pre.length + 1 + 1) (n := pre.length + 1) (by simp) (y := .sl 2 [spV s]) rfl (by simp) (by simp) (by omega) (by omega); simpa using this)
      have k6 := wr_lt (h := h ++ [Ob.row 2 [spV s]]) (i := id) (o := .row 2 (pre.map spV ++ [spV t, spV s])) (by simp; omega)
      simp only [spV] at k4 k5 k6
      simp [runW_fin, F_spans_put, i_spans_put, e', hg, hw1, hw2, hp, hp2, c, k4, k5, k6]
    · rw [List.getElem?_set_self (by simp; omega)]
      simp
/-- a list that grows by spans -/
def AccP (h : List Ob) (v : V) (l : List Sp) : Prop := (v = .nsl 2 ∧ l = []) ∨ ∃ id, l ≠ [] ∧ v = .own id 0 l.length l.length ∧ h[id]? = some (.row 2 (l.map spV))
theorem AccP.acc {h : List Ob} {v : V} {l : List Sp} (a : AccP h v l) : Acc h v 2 (l.map spV) := by
  rcases a with ⟨rfl, rfl⟩ | ⟨id, h1, rfl, e⟩
  · exact .inl ⟨rfl, rfl⟩
  · exact .inr ⟨id, by simp, e⟩
theorem AccP.frz {h : List Ob} {v : V} {l : List Sp} (a : AccP h v l) : frz h fdepth v = some (spsV l) :=
  a.acc.toB.frz 11 (mapO_id fun x hx => by obtain ⟨s, -, rfl⟩ := List.mem_map.1 hx; exact spV_fz s h 7)
theorem put (l : List Sp) (s : Sp) (v : V) (h : List Ob) (hl : l.length ≤ 1000000) (hb : ∀ t ∈ l, -1099511627776 ≤ t.hi ∧ t.hi ≤ 1099511627776) (a : AccP h v l) :
    ∃ v' h', acw C n_spans_put [v, spV s] h = some (.ret v', h') ∧ AccP h' v' (putS l s) := by
  rcases a with ⟨rfl, rfl⟩ | ⟨id, h1, rfl, e⟩
  · exact ⟨_, _, put_nil s h, .inr ⟨h.length + 1, by simp [putS_nil], by simp [putS_nil], by simp [putS_nil]⟩⟩
  · obtain ⟨pre, t, rfl⟩ : ∃ pre t, l = pre ++ [t] := ⟨l.dropLast, l.getLast h1, (List.dropLast_concat_getLast h1).symm⟩
    obtain ⟨m, h', k1, rfl, k3, -⟩ := put_own pre t s id (pre ++ [t]).length h (by simp) (by simp at hl; omega) (by simpa using e) (hb t (by simp))
    exact ⟨_, _, k1, .inr ⟨id, by rw [putS_end]; split <;> simp, rfl, k3⟩⟩
def okI (n : Int) : Bool := decide (-1048576 ≤ n) && decide (n ≤ 1048576)
def ofL : List Sp → List Int → Option (List Sp)
  | acc, [] => some acc
  | acc, v :: r => if okI v = true then ofL (putS acc ⟨v, v⟩) r else none
theorem putS_hi {l : List Sp} {s : Sp} {b : Int} (h : ∀ t ∈ l, -b ≤ t.hi ∧ t.hi ≤ b) (hs : -b ≤ s.hi ∧ s.hi ≤ b) : ∀ t ∈ putS l s, -b ≤ t.hi ∧ t.hi ≤ b := by
  by_cases e : l = []
  · subst e
    simp [putS_nil, hs]
  · obtain ⟨pre, t, rfl⟩ : ∃ pre t, l = pre ++ [t] := ⟨l.dropLast, l.getLast e, (List.dropLast_concat_getLast e).symm⟩
    have ht := h t (by simp)
    rw [putS_end]
    intro x hx
    split at hx
    · rcases List.mem_append.1 hx with hx | hx
      · exact h x (by simp [hx])
      · simp only [List.mem_singleton] at hx
        subst hx
        simp only
        omega
    · rcases List.mem_append.1 hx with hx | hx
      · exact h x hx
      · simp only [List.mem_singleton] at hx
        subst hx
        exact hs
theorem putS_len (l : List Sp) (s : Sp) : (putS l s).length ≤ l.length + 1 := by
  by_cases e : l = []
  · subst e
    simp [putS_nil]
  · obtain ⟨pre, t, rfl⟩ : ∃ pre t, l = pre ++ [t] := ⟨l.dropLast, l.getLast e, (List.dropLast_concat_getLast e).symm⟩
    rw [putS_end]
    split <;> simp
theorem of_loop (l : List Int) (hl : l.length ≤ 1000000) : ∀ (d i : Nat) (acc : List Sp) (v : V) (h : List Ob), i + d = l.length → acc.length ≤ i → (∀ t ∈ acc, -1048576 ≤ t.hi ∧ t.hi ≤ 1048576) → AccP h v acc →
    ∃ h', match ofL acc (l.drop i) with
      | some r => ∃ v', evw C y0 i_spans_Of_l0 [(4, v), (9, intsV l), (10, iv l.length), (11, iv i)] h = some (.ext 0, [(4, v'), (9, intsV l), (10, iv l.length), (11, iv l.length), (12, .bool false)], h') ∧ AccP h' v' r
      | none => evw C y0 i_spans_Of_l0 [(4, v), (9, intsV l), (10, iv l.length), (11, iv i)] h = some (.ret, [(2, .nsl 2), (3, iv 1)], h')
  | 0, i, acc, v, h, e, ha, hb, hA => by
    obtain rfl : i = l.length := by omega
    refine ⟨h, ?_⟩
    rw [List.drop_length]
    refine ⟨v, ?_, hA⟩
    rw [r_spans_Of_0]
    simp [b_spans_Of_0]
  | d + 1, i, acc, v, h, e, ha, hb, hA => by
    have hlt : i < l.length := by omega
    have h2 : (i : Int) < l.length := by omega
    have h3 : l[i]? = some l[i] := by simp [hlt]
    have hw := wrap_succ (i := i) (n := l.length) hlt (by omega)
    rw [List.drop_eq_getElem_cons hlt]
    by_cases c1 : l[i] < -1048576
    · have c : okI l[i] = false := by simp [okI]; omega
      simp only [ofL, c, Bool.false_eq_true, if_false]
      refine ⟨h, ?_⟩
      rw [r_spans_Of_0]
      simp [b_spans_Of_0, h2, h3, c1]
    by_cases c2 : 1048576 < l[i]
    · have c : okI l[i] = false := by simp [okI]; omega
      simp only [ofL, c, Bool.false_eq_true, if_false]
      refine ⟨h, ?_⟩
      rw [r_spans_Of_0]
      simp [b_spans_Of_0, h2, h3, c1, c2]
    have c : okI l[i] = true := by simp [okI]; omega
    simp only [ofL, c, if_true]
    obtain ⟨v', h1, k1, k2⟩ := put acc ⟨l[i], l[i]⟩ v h (by omega) (fun t ht => by have := hb t ht; omega) hA
    obtain ⟨h', ih⟩ := of_loop l hl d (i + 1) (putS acc ⟨l[i], l[i]⟩) v' h1 (by omega) (by have := putS_len acc ⟨l[i], l[i]⟩; omega) (putS_hi hb (by simp; omega)) k2
    refine ⟨h', ?_⟩
    simp only [Int.natCast_add, Int.cast_ofNat_Int] at ih
    simp only [spV] at k1
    cases hr : ofL (putS acc ⟨l[i], l[i]⟩) (l.drop (i + 1)) with
    | some r =>
      rw [hr] at ih
      obtain ⟨v2, ih, a2⟩ := ih
      refine ⟨v2, ?_, a2⟩
      rw [r_spans_Of_0, ← ih]
      simp [b_spans_Of_0, h2, h3, c1, c2, k1, hw]
    | none =>
      rw [hr] at ih
      simp only at ih ⊢
      rw [r_spans_Of_0, ← ih]
      simp [b_spans_Of_0, h2, h3, c1, c2, k1, hw]
/-- the spans of numbers, or why there are none -/
def ofR (l : List Int) : List Sp × Int := match ofL [] (sortI l) with
  | some r => (r, 0)
  | none => ([], 1)
theorem spans_Of (l : List Int) (hl : l.length ≤ 1000000) (h : List Ob) : acw C n_spans_Of [intsV l] h = some (.ret (.tup [spsV (ofR l).1, iv (ofR l).2]), h) := by
  have hs := sortI_length l
  obtain ⟨h', ih⟩ := of_loop (sortI l) (by omega) l.length 0 [] (.nsl 2) [] (by omega) (Nat.le_refl _) (by simp) (.inl ⟨rfl, rfl⟩)
  have k1 := values l
  have k2 := sorted l (by omega)
  simp only [List.drop_zero, Int.cast_ofNat_Int] at ih
  unfold ofR
  cases hr : ofL [] (sortI l) with
  | some r =>
    rw [hr] at ih
    obtain ⟨v', ih, a2⟩ := ih
    refine acw_pure (a2 := [intsV l]) (h' := h') (v := .tup [v', iv 0]) (CT T_spans_Of) rfl rfl ?_ ?_ (by simp)
    · simp [runW_fin, F_spans_Of, i_spans_Of, k1, k2, ih]
    · show (mapO (RR.frz h' 11) [v', iv 0]).map V.tup = _
      have := a2.acc.toB.frz 10 (mapO_id fun x hx => by obtain ⟨s, -, rfl⟩ := List.mem_map.1 hx; exact spV_fz s h' 6)
      simp only [mapO, this, show ∀ n : Int, RR.frz h' 11 (iv n) = some (iv n) from fun _ => rfl, Option.map_some]
  | none =>
    rw [hr] at ih
    simp only at ih
    refine acw_pure (a2 := [intsV l]) (h' := h') (v := .tup [.nsl 2, iv 1]) (CT T_spans_Of) rfl rfl ?_ rfl (by simp)
    simp [runW_fin, F_spans_Of, i_spans_Of, k1, k2, ih]
end Go.RR.M
set_option linter.unusedVariables false
set_option linter.unusedSimpArgs false
set_option maxRecDepth 100000
set_option maxHeartbeats 4000000
namespace Go.RR.M
open Go Go.RR
def bst (low : Int) (b : Int) (l : List Int) : Int := l.foldl (fun b v => if low < v ∧ v < b then v else b) b
theorem bst_cons (low b v : Int) (l : List Int) : bst low b (v :: l) = bst low (if low < v ∧ v < b then v else b) l := rfl
theorem bst_spec (low : Int) : ∀ (l : List Int) (b : Int), bst low b l ≤ b ∧ (∀ v ∈ l, low < v → bst low b l ≤ v) ∧ (bst low b l = b ∨ bst low b l ∈ l ∧ low < bst low b l)
  | [], b => ⟨Int.le_refl _, by simp, .inl rfl⟩
  | v :: l, b => by
    rw [bst_cons]
    by_cases c : low < v ∧ v < b
    · rw [if_pos c]
      obtain ⟨h1, h2, h3⟩ := bst_spec low l v
      refine ⟨by omega, fun w hw hl => ?_, ?_⟩
      · rcases List.mem_cons.1 hw with rfl | hw
        · exact h1
        · exact h2 w hw hl
      · rcases h3 with h3 | h3
        · exact .inr ⟨by rw [h3]; simp, by rw [h3]; exact c.1⟩
        · exact .inr ⟨List.mem_cons_of_mem _ h3.1, h3.2⟩
    · rw [if_neg c]
      obtain ⟨h1, h2, h3⟩ := bst_spec low l b
      refine ⟨h1, fun w hw hl => ?_, ?_⟩
      · rcases List.mem_cons.1 hw with rfl | hw
        · omega
        · exact h2 w hw hl
      · rcases h3 with h3 | h3
        · exact .inl h3
        · exact .inr ⟨List.mem_cons_of_mem _ h3.1, h3.2⟩
def outR (out : List Sp) (b : Int) : List Sp := match out.getLast? with
  | some t => if t.hi + 1 = b then out.dropLast ++ [⟨t.lo, b⟩] else out ++ [⟨b, b⟩]
  | none => [⟨b, b⟩]
theorem outR_nil (b : Int) : outR [] b = [⟨b, b⟩] := rfl
theorem outR_end (pre : List Sp) (t : Sp) (b : Int) : outR (pre ++ [t]) b = if t.hi + 1 = b then pre ++ [⟨t.lo, b⟩] else pre ++ [t] ++ [⟨b, b⟩] := by
  unfold outR
  rw [List.getLast?_append]
  simp
theorem filter_gt_lt (x low : Int) (h : low < x) (s : List Int) : (s.filter fun v => decide (low < v)).filter (fun v => decide (x < v)) = s.filter fun v => decide (x < v) := by
  rw [List.filter_filter]
  congr 1
  funext v
  by_cases c : x < v
  · simp [c]; omega
  · simp [c]
def refS : Nat → List Int → List Sp → List Sp
  | 0, _, out => out
  | _ + 1, [], out => out
  | n + 1, x :: r, out => refS n (r.filter fun v => decide (x < v)) (outR out x)
theorem putS_outR {out : List Sp} {x : Int} (h : ∀ t ∈ out, t.hi < x) : putS out ⟨x, x⟩ = outR out x := by
  by_cases e : out = []
  · subst e; rfl
  · obtain ⟨pre, t, rfl⟩ : ∃ pre t, out = pre ++ [t] := ⟨out.dropLast, out.getLast e, (List.dropLast_concat_getLast e).symm⟩
    have := h t (by simp)
    rw [putS_end, outR_end]
    by_cases c : t.hi + 1 = x
    · rw [if_pos c, if_pos (by first | omega | (simp only; omega))]
      simp only [show max t.hi x = x by omega]
    · rw [if_neg c, if_neg (by first | omega | (simp only; omega))]
theorem outR_hi {out : List Sp} {x b : Int} (h : ∀ t ∈ out, t.hi < x) (hb : x < b) : ∀ t ∈ outR out x, t.hi < b := by
  by_cases e : out = []
  · subst e; simp [outR_nil, hb]
  · obtain ⟨pre, t, rfl⟩ : ∃ pre t, out = pre ++ [t] := ⟨out.dropLast, out.getLast e, (List.dropLast_concat_getLast e).symm⟩
    rw [outR_end]
    intro y hy
    split at hy
    · rcases List.mem_append.1 hy with hy | hy
      · have := h y (by simp [hy]); omega
      · simp only [List.mem_singleton] at hy; subst hy; exact hb
    · rcases List.mem_append.1 hy with hy | hy
      · have := h y hy; omega
      · simp only [List.mem_singleton] at hy; subst hy; exact hb
theorem putS_same {out : List Sp} {x : Int} (h : ∀ t ∈ out, t.hi < x) : putS (outR out x) ⟨x, x⟩ = outR out x := by
  by_cases e : out = []
  · subst e
    have := putS_end [] ⟨x, x⟩ ⟨x, x⟩
    simp only [List.nil_append] at this
    rw [outR_nil, this, if_pos (by first | omega | (simp only; omega))]
    simp only [Int.max_def, Int.le_refl, if_true]
  · obtain ⟨pre, t, rfl⟩ : ∃ pre t, out = pre ++ [t] := ⟨out.dropLast, out.getLast e, (List.dropLast_concat_getLast e).symm⟩
    rw [outR_end]
    split
    · rw [putS_end, if_pos (by first | omega | (simp only; omega))]
      simp
    · rw [putS_end, if_pos (by first | omega | (simp only; omega))]
      simp
theorem sorted_cons {x : Int} {r : List Int} (h : (x :: r).Pairwise (· ≤ ·)) : r.Pairwise (· ≤ ·) ∧ ∀ v ∈ r, x ≤ v := ⟨(List.pairwise_cons.1 h).2, (List.pairwise_cons.1 h).1⟩
theorem ofL_dup {out : List Sp} {x : Int} (h : ∀ t ∈ out, t.hi < x) (hx : okI x = true) : ∀ (r : List Int), r.Pairwise (· ≤ ·) → (∀ v ∈ r, x ≤ v) → ofL (outR out x) r = ofL (outR out x) (r.filter fun v => decide (x < v))
  | [], _, _ => rfl
  | v :: r, hs, hv => by
    have h1 := sorted_cons hs
    by_cases c : x < v
    · have : (v :: r).filter (fun w => decide (x < w)) = v :: r := List.filter_eq_self.2 fun w hw => by
        rcases List.mem_cons.1 hw with rfl | hw
        · simp [c]
        · have := h1.2 w hw; simp; omega
      rw [this]
    · have hvx : v = x := by have := hv v (by simp); omega
      subst hvx
      rw [List.filter_cons_of_neg (by simp)]
      simp only [ofL, hx, if_true]
      rw [putS_same h]
      exact ofL_dup h hx r h1.1 h1.2
theorem ofL_refS : ∀ (n : Nat) (s : List Int) (out : List Sp), s.length ≤ n → s.Pairwise (· ≤ ·) → (∀ v ∈ s, okI v = true) → (∀ t ∈ out, ∀ v ∈ s, t.hi < v) → ofL out s = some (refS n s out)
  | 0, s, out, hl, _, _, _ => by
    have : s = [] := List.length_eq_zero_iff.1 (by omega)
    subst this; rfl
  | n + 1, [], out, _, _, _, _ => rfl
  | n + 1, x :: r, out, hl, hs, ho, hb => by
    have h1 := sorted_cons hs
    have hx := ho x (by simp)
    have hbx : ∀ t ∈ out, t.hi < x := fun t ht => hb t ht x (by simp)
    simp only [ofL, hx, if_true, refS]
    rw [putS_outR hbx, ofL_dup hbx hx r h1.1 h1.2]
    refine ofL_refS n _ _ ?_ (h1.1.filter _) (fun v hv => ho v (by simp [(List.mem_filter.1 hv).1])) fun t ht v hv => ?_
    · have := List.length_filter_le (fun v => decide (x < v)) r
      simp at hl; omega
    · exact outR_hi hbx (by simpa using (List.mem_filter.1 hv).2) t ht
theorem ofL_none : ∀ (s : List Int) (out : List Sp), (∃ v ∈ s, okI v = false) → ofL out s = none
  | [], _, h => by obtain ⟨v, hv, _⟩ := h; simp at hv
  | x :: r, out, h => by
    simp only [ofL]
    cases hx : okI x with
    | false => rfl
    | true =>
      simp only [if_true]
      obtain ⟨v, hv, h1⟩ := h
      rcases List.mem_cons.1 hv with rfl | hv
      · rw [hx] at h1; cases h1
      · exact ofL_none r _ ⟨v, hv, h1⟩
/-- the least that is more -/
theorem bst_sorted {l : List Int} {low : Int} (ho : ∀ v ∈ l, okI v = true) : bst low 2000000 l = match (sortI l).filter fun v => decide (low < v) with
    | [] => 2000000
    | x :: _ => x := by
  obtain ⟨h1, h2, h3⟩ := bst_spec low l 2000000
  have hm : ∀ v, v ∈ sortI l ↔ v ∈ l := fun v => (sortI_perm l).mem_iff
  have hs : ((sortI l).filter fun v => decide (low < v)).Pairwise (· ≤ ·) := (sortI_sorted l).filter _
  have hmem : ∀ v, v ∈ (sortI l).filter (fun v => decide (low < v)) ↔ v ∈ l ∧ low < v := fun v => by rw [List.mem_filter, hm]; simp
  cases e : (sortI l).filter fun v => decide (low < v) with
  | nil =>
    rcases h3 with h3 | h3
    · exact h3
    · have := (hmem _).2 h3
      rw [e] at this
      simp at this
  | cons x r =>
    simp only
    rw [e] at hs
    have hx := (hmem x).1 (by rw [e]; simp)
    have hox := ho x hx.1
    simp only [okI, Bool.and_eq_true, decide_eq_true_eq] at hox
    have h4 := h2 x hx.1 hx.2
    rcases h3 with h3 | h3
    · omega
    · have := (hmem _).2 h3
      rw [e] at this
      rcases List.mem_cons.1 this with h5 | h5
      · exact h5
      · have := (sorted_cons hs).2 _ h5
        omega
end Go.RR.M
set_option linter.unusedVariables false
set_option linter.unusedSimpArgs false
set_option maxRecDepth 100000
set_option maxHeartbeats 4000000
namespace Go.RR.M
open Go Go.RR
theorem rof_l0 (l : List Int) (hl : l.length ≤ 1000000) (v : V) (h : List Ob) : ∀ (d i : Nat), i + d = l.length →
    evw C y0 i_ref03_Of_l0 [(0, intsV l), (4, v), (5, iv (-2000000)), (6, iv i)] h =
      some (if (l.drop i).all okI = true then (.ext 0, [(0, intsV l), (4, v), (5, iv (-2000000)), (6, iv l.length), (14, .bool false)], h) else (.ret, [(2, .nsl 2), (3, iv 1)], h))
  | 0, i, e => by
    obtain rfl : i = l.length := by omega
    rw [List.drop_length, r_ref03_Of_0]
    simp [b_ref03_Of_0]
  | d + 1, i, e => by
    have hlt : i < l.length := by omega
    have h2 : (i : Int) < l.length := by omega
    have h3 : l[i]? = some l[i] := by simp [hlt]
    have hw := wrap_succ (i := i) (n := l.length) hlt (by omega)
    have ih := rof_l0 l hl v h d (i + 1) (by omega)
    simp only [Int.natCast_add, Int.cast_ofNat_Int] at ih
    rw [List.drop_eq_getElem_cons hlt, r_ref03_Of_0, List.all_cons]
    by_cases c1 : l[i] < -1048576
    · have c : okI l[i] = false := by simp [okI]; omega
      simp [b_ref03_Of_0, h2, h3, c1, c]
    by_cases c2 : 1048576 < l[i]
    · have c : okI l[i] = false := by simp [okI]; omega
      simp [b_ref03_Of_0, h2, h3, c1, c2, c]
    have c : okI l[i] = true := by simp [okI]; omega
    rw [c, Bool.true_and, ← ih]
    simp [b_ref03_Of_0, h2, h3, c1, c2, hw]
theorem rof_l1 (l : List Int) (hl : l.length ≤ 1000000) (low : Int) (v : V) (h : List Ob) : ∀ (d i : Nat) (b : Int), i + d = l.length →
    evw C y0 i_ref03_Of_l1 [(0, intsV l), (4, v), (5, iv low), (8, iv b), (9, iv i)] h =
      some (.ext 4, [(0, intsV l), (4, v), (5, iv low), (8, iv (bst low b (l.drop i))), (9, iv l.length), (33, .bool false)], h)
  | 0, i, b, e => by
    obtain rfl : i = l.length := by omega
    rw [List.drop_length, r_ref03_Of_1]
    simp [b_ref03_Of_1, bst]
  | d + 1, i, b, e => by
    have hlt : i < l.length := by omega
    have h2 : (i : Int) < l.length := by omega
    have h3 : l[i]? = some l[i] := by simp [hlt]
    have hw := wrap_succ (i := i) (n := l.length) hlt (by omega)
    rw [List.drop_eq_getElem_cons hlt, r_ref03_Of_1, bst_cons]
    by_cases c1 : low < l[i]
    · by_cases c2 : l[i] < b
      · have ih := rof_l1 l hl low v h d (i + 1) l[i] (by omega)
        simp only [Int.natCast_add, Int.cast_ofNat_Int] at ih
        rw [if_pos ⟨c1, c2⟩, ← ih]
        simp [b_ref03_Of_1, h2, h3, c1, c2, hw]
      · have ih := rof_l1 l hl low v h d (i + 1) b (by omega)
        simp only [Int.natCast_add, Int.cast_ofNat_Int] at ih
        rw [if_neg (fun c => c2 c.2), ← ih]
        simp [b_ref03_Of_1, h2, h3, c1, c2, hw]
    · have ih := rof_l1 l hl low v h d (i + 1) b (by omega)
      simp only [Int.natCast_add, Int.cast_ofNat_Int] at ih
      rw [if_neg (fun c => c1 c.1), ← ih]
      simp [b_ref03_Of_1, h2, h3, c1, hw]
/-- one more number: its list -/
theorem rof_step (l : List Int) (hl : l.length ≤ 1000000) (low b : Int) (out : List Sp) (ho : out.length ≤ 1000000) (hb : bst low 2000000 l = b) (hb2 : b < 2000000) (hr : ∀ t ∈ out, -1048576 ≤ t.hi ∧ t.hi ≤ 1048576) :
    evw C y0 i_ref03_Of_l2 [(0, intsV l), (4, .own 0 0 out.length out.length), (5, iv low), (7, .bool true)] [.row 2 (out.map spV)] =
      evw C y0 i_ref03_Of_l2 [(0, intsV l), (4, .own 0 0 (outR out b).length (outR out b).length), (5, iv b), (7, .bool true)] [.row 2 ((outR out b).map spV)] := by
  have h1 := rof_l1 l hl low (.own 0 0 out.length out.length) [.row 2 (out.map spV)] l.length 0 2000000 (by omega)
  rw [List.drop_zero, hb] at h1
  simp only [Int.cast_ofNat_Int] at h1
  have k4 : bsfL (.agg [.int .i64 0, .int .i64 0]) [spV ⟨b, b⟩] = some (.sl 2 [spV ⟨b, b⟩]) := rfl
  rw [r_ref03_Of_2]
  by_cases e : out = []
  · subst e
    have k5 : ∀ nid, appV nid [.row 2 []] 2 16 (.own 0 0 0 0) (.sl 2 [spV ⟨b, b⟩]) = some (.own 0 0 1 1, some (0, .row 2 [spV ⟨b, b⟩])) := fun nid => appV_own (xs := []) rfl rfl rfl (by simp) (by simp) (by omega) (by omega)
    simp only [spV, List.length_nil, List.map_nil] at k4 k5 h1
    simp [b_ref03_Of_2, h1, hb2, k4, k5, outR_nil]
  · obtain ⟨pre, t, rfl⟩ : ∃ pre t, out = pre ++ [t] := ⟨out.dropLast, out.getLast e, (List.dropLast_concat_getLast e).symm⟩
    have ht := hr t (by simp)
    have hpl : pre.length < 1000000 := by simp at ho; omega
    have hw1 : IntKind.i64.wrap (pre.length : Int) = pre.length := wrap64 (by omega) (by omega)
    have hw2 : IntKind.i64.wrap (t.hi + 1) = t.hi + 1 := wrap64 (by omega) (by omega)
    have hp : (0 : Int) < pre.length + 1 := by omega
    have hp2 : (pre.length : Int) < pre.length + 1 := by omega
    have hg : (pre.map spV ++ [spV t])[pre.length]? = some (spV t) := by simp
    rw [outR_end]
    simp only [spV, List.length_append, List.length_cons, List.length_nil, Nat.zero_add, List.map_append, List.map_cons, List.map_nil] at h1 hg k4
    by_cases c : t.hi + 1 = b
    · rw [if_pos c]
      subst c
      simp [b_ref03_Of_2, h1, hb2, hp, hp2, hw1, hw2, hg, ieq, ine]
    · rw [if_neg c]
      have k5 : ∀ nid, appV nid [.row 2 (pre.map spV ++ [.agg [.int .i64 t.lo, .int .i64 t.hi]])] 2 16 (.own 0 0 (pre.length + 1) (pre.length + 1)) (.sl 2 [.agg [.int .i64 b, .int .i64 b]]) = some (.own 0 0 (pre.length + 1 + 1) (pre.length + 1 + 1), some (0, .row 2 (pre.map spV ++ [.agg [.int .i64 t.lo, .int .i64 t.hi], .agg [.int .i64 b, .int .i64 b]]))) := fun nid => by
        have := appV_own (nid := nid) (h := [.row 2 (pre.map spV ++ [.agg [.int .i64 t.lo, .int .i64 t.hi]])]) (id := 0) (z := 2) (b := 16) (n := pre.length + 1) (m := pre.length + 1 + 1) (y := .sl 2 [.agg [.int .i64 b, .int .i64 b]]) rfl (by simp) rfl (by simp) (by simp) (by omega) (by omega)
        simpa using this
      simp [b_ref03_Of_2, h1, hb2, hp, hp2, hw1, hw2, hg, ieq, ine, c, k4, k5]
theorem rof_end (l : List Int) (hl : l.length ≤ 1000000) (low : Int) (out : List Sp) (ho : out.length ≤ 1000000) (hb : bst low 2000000 l = 2000000) :
    evw C y0 i_ref03_Of_l2 [(0, intsV l), (4, .own 0 0 out.length out.length), (5, iv low), (7, .bool true)] [.row 2 (out.map spV)] =
      some (.ext 2, [(0, intsV l), (4, .own 0 0 out.length out.length), (5, iv 2000000), (29, .bool false)], [.row 2 (out.map spV)]) := by
  have h1 := rof_l1 l hl low (.own 0 0 out.length out.length) [.row 2 (out.map spV)] l.length 0 2000000 (by omega)
  rw [List.drop_zero, hb] at h1
  simp only [Int.cast_ofNat_Int] at h1
  have h2 : evw C y0 i_ref03_Of_l2 [(0, intsV l), (4, .own 0 0 out.length out.length), (5, iv 2000000), (7, .bool false)] [.row 2 (out.map spV)] = some (.ext 2, [(0, intsV l), (4, .own 0 0 out.length out.length), (5, iv 2000000), (29, .bool false)], [.row 2 (out.map spV)]) := by
    rw [r_ref03_Of_2]
    simp [b_ref03_Of_2]
  rw [r_ref03_Of_2]
  simp [b_ref03_Of_2, h1]
  exact h2
theorem outR_len (out : List Sp) (b : Int) : (outR out b).length ≤ out.length + 1 := by
  by_cases e : out = []
  · subst e
    simp [outR_nil]
  · obtain ⟨pre, t, rfl⟩ : ∃ pre t, out = pre ++ [t] := ⟨out.dropLast, out.getLast e, (List.dropLast_concat_getLast e).symm⟩
    rw [outR_end]
    split <;> simp
theorem outR_bd {out : List Sp} {x : Int} (h : ∀ t ∈ out, -1048576 ≤ t.hi ∧ t.hi ≤ 1048576) (hx : -1048576 ≤ x ∧ x ≤ 1048576) : ∀ t ∈ outR out x, -1048576 ≤ t.hi ∧ t.hi ≤ 1048576 := by
  by_cases e : out = []
  · subst e; simp [outR_nil, hx]
  · obtain ⟨pre, t, rfl⟩ : ∃ pre t, out = pre ++ [t] := ⟨out.dropLast, out.getLast e, (List.dropLast_concat_getLast e).symm⟩
    rw [outR_end]
    intro y hy
    split at hy
    · rcases List.mem_append.1 hy with hy | hy
      · exact h y (by simp [hy])
      · simp only [List.mem_singleton] at hy; subst hy; exact hx
    · rcases List.mem_append.1 hy with hy | hy
      · exact h y hy
      · simp only [List.mem_singleton] at hy; subst hy; exact hx
theorem rof_l2 (l : List Int) (hl : l.length ≤ 1000000) (hok : ∀ v ∈ l, okI v = true) : ∀ (n : Nat) (low : Int) (out : List Sp) (r : List Int), ((sortI l).filter fun v => decide (low < v)) = r → r.length ≤ n → out.length + n ≤ 1000000 → (∀ t ∈ out, -1048576 ≤ t.hi ∧ t.hi ≤ 1048576) →
    evw C y0 i_ref03_Of_l2 [(0, intsV l), (4, .own 0 0 out.length out.length), (5, iv low), (7, .bool true)] [.row 2 (out.map spV)] =
      some (.ext 2, [(0, intsV l), (4, .own 0 0 (refS n r out).length (refS n r out).length), (5, iv 2000000), (29, .bool false)], [.row 2 ((refS n r out).map spV)])
  | 0, low, out, r, hr, hn, ho, hb => by
    have : r = [] := List.length_eq_zero_iff.1 (by omega)
    subst this
    have h1 := bst_sorted (low := low) hok
    rw [hr] at h1
    exact rof_end l hl low out (by omega) h1
  | n + 1, low, out, [], hr, hn, ho, hb => by
    have h1 := bst_sorted (low := low) hok
    rw [hr] at h1
    exact rof_end l hl low out (by omega) h1
  | n + 1, low, out, x :: r, hr, hn, ho, hb => by
    have h1 := bst_sorted (low := low) hok
    rw [hr] at h1
    simp only at h1
    have hx : x ∈ l ∧ low < x := by
      have : x ∈ (sortI l).filter fun v => decide (low < v) := by rw [hr]; simp
      rw [List.mem_filter, (sortI_perm l).mem_iff] at this
      simpa using this
    have hox := hok x hx.1
    simp only [okI, Bool.and_eq_true, decide_eq_true_eq] at hox
    rw [rof_step l hl low x out (by omega) h1 (by omega) hb]
    have hr2 : ((sortI l).filter fun v => decide (x < v)) = r.filter fun v => decide (x < v) := by
      rw [← filter_gt_lt x low hx.2, hr, List.filter_cons_of_neg (by simp)]
    have := List.length_filter_le (fun v => decide (x < v)) r
    have h2 := outR_len out x
    exact rof_l2 l hl hok n x (outR out x) _ hr2 (by simp at hn; omega) (by omega) (outR_bd hb hox)
theorem ref03_Of (l : List Int) (hl : l.length ≤ 500000) (h : List Ob) : acw C n_ref03_Of [intsV l] h = some (.ret (.tup [spsV (ofR l).1, iv (ofR l).2]), h) := by
  have h0 := rof_l0 l (by omega) (.own 0 0 0 0) [.row 2 []] l.length 0 (by omega)
  rw [List.drop_zero] at h0
  simp only [Int.cast_ofNat_Int] at h0
  cases c : l.all okI with
  | false =>
    rw [c] at h0
    simp only [Bool.false_eq_true, if_false] at h0
    have e : ofR l = ([], 1) := by
      unfold ofR
      rw [ofL_none (sortI l) [] (by
        obtain ⟨v, hv, h1⟩ := List.all_eq_false.1 c
        exact ⟨v, (sortI_perm l).mem_iff.2 hv, by simpa using h1⟩)]
    rw [e]
    refine acw_pure (a2 := [intsV l]) (h' := [.row 2 []]) (v := .tup [.nsl 2, iv 1]) (CT T_ref03_Of) rfl rfl ?_ rfl (by simp)
    simp [runW_fin, F_ref03_Of, i_ref03_Of, h0]
  | true =>
    rw [c] at h0
    simp only [if_true] at h0
    have hok : ∀ v ∈ l, okI v = true := List.all_eq_true.1 c
    have hoks : ∀ v ∈ sortI l, okI v = true := fun v hv => hok v ((sortI_perm l).mem_iff.1 hv)
    have hf : ((sortI l).filter fun v => decide ((-2000000 : Int) < v)) = sortI l := List.filter_eq_self.2 fun v hv => by
      have := hoks v hv
      simp only [okI, Bool.and_eq_true, decide_eq_true_eq] at this
      simp; omega
    have hs := sortI_length l
    have e : ofR l = (refS l.length (sortI l) [], 0) := by
      unfold ofR
      rw [ofL_refS l.length (sortI l) [] (by omega) (sortI_sorted l) hoks (by simp)]
    rw [e]
    have h2 := rof_l2 l (by omega) hok l.length (-2000000) [] (sortI l) hf (by omega) (by simp; omega) (by simp)
    obtain ⟨R, hR⟩ : ∃ R, R = refS l.length (sortI l) [] := ⟨_, rfl⟩
    rw [← hR] at h2 ⊢
    simp only [List.length_nil, List.map_nil] at h2
    refine acw_pure (a2 := [intsV l]) (h' := [.row 2 (R.map spV)]) (v := .tup [.own 0 0 R.length R.length, iv 0]) (CT T_ref03_Of) rfl rfl ?_ ?_ (by simp)
    · simp [runW_fin, F_ref03_Of, i_ref03_Of, h0, h2]
    · show (mapO (RR.frz _ 11) [.own 0 0 R.length R.length, iv 0]).map V.tup = _
      have a : AccB 0 [Ob.row 2 (R.map spV)] (.own 0 0 R.length R.length) 2 (R.map spV) := .own (Nat.zero_le _) (by simp) rfl
      have := a.frz 10 (mapO_id fun x hx => by obtain ⟨s, -, rfl⟩ := List.mem_map.1 hx; exact spV_fz s _ 6)
      simp only [mapO, this, show ∀ n : Int, RR.frz [Ob.row 2 (R.map spV)] 11 (iv n) = some (iv n) from fun _ => rfl, Option.map_some]
end Go.RR.M
set_option linter.unusedVariables false
set_option linter.unusedSimpArgs false
set_option maxRecDepth 100000
namespace Go.RR.M
open Go Go.RR
def plS (v : Int) : List Sp → Int → Int
  | [], _ => -1
  | s :: r, n => if v < s.lo then -1 else if v ≤ s.hi then n + v - s.lo else plS v r (n + (s.hi - s.lo + 1))
def atS : List Sp → Int → Int × Bool
  | [], _ => (0, false)
  | s :: r, k => if k < s.hi - s.lo + 1 then (s.lo + k, true) else atS r (k - (s.hi - s.lo + 1))
def inS (v : Int) (l : List Sp) : Bool := l.any fun s => decide (s.lo ≤ v) && decide (v ≤ s.hi)
def plR (v : Int) : List Sp → Int → Int
  | [], n => n
  | s :: r, n => plR v r (if s.hi < v then n + s.hi + 1 - s.lo else if s.lo ≤ v then n + v - s.lo else n)
/-- numbers, one behind another -/
def rng : Int → Nat → List Int
  | _, 0 => []
  | v, n + 1 => v :: rng (v + 1) n
theorem rng_len : ∀ (n : Nat) (v : Int), (rng v n).length = n
  | 0, _ => rfl
  | n + 1, v => by simp [rng, rng_len n]
theorem rng_get : ∀ (n : Nat) (v : Int) (k : Nat) (h : k < (rng v n).length), (rng v n)[k] = v + k
  | 0, v, k, h => by simp [rng] at h
  | n + 1, v, 0, h => by simp [rng]
  | n + 1, v, k + 1, h => by
    simp only [rng, List.getElem_cons_succ]
    rw [rng_get n (v + 1) k]
    omega
theorem mem_rng : ∀ {n : Nat} {v x : Int}, x ∈ rng v n ↔ v ≤ x ∧ x < v + n
  | 0, v, x => by simp [rng] <;> omega
  | n + 1, v, x => by
    rw [rng, List.mem_cons, mem_rng]
    omega
def valS (l : List Sp) : List Int := l.flatMap fun s => rng s.lo (s.hi - s.lo + 1).toNat
theorem valS_cons (s : Sp) (r : List Sp) : valS (s :: r) = rng s.lo (s.hi - s.lo + 1).toNat ++ valS r := rfl
theorem spR_cons {p : Option Int} {s : Sp} {r : List Sp} (h : spR p (s :: r) = true) : s.lo ≤ s.hi ∧ -1048576 ≤ s.lo ∧ s.hi ≤ 1048576 ∧ (∀ q, p = some q → q + 1 < s.lo) ∧ spR (some s.hi) r = true := by
  cases p with
  | none => simp [spR] at h; exact ⟨h.1.1.1, h.1.1.2, h.1.2, by simp, h.2⟩
  | some q => simp [spR] at h; exact ⟨h.1.1.1.1, h.1.1.1.2, h.1.1.2, fun x e => by cases e; exact h.1.2, h.2⟩
theorem spR_lo {q : Int} : ∀ {l : List Sp}, spR (some q) l = true → ∀ s ∈ l, q + 1 < s.lo ∧ s.lo ≤ s.hi
  | [], _, s, hs => by simp at hs
  | t :: r, h, s, hs => by
    obtain ⟨h1, h2, h3, h4, h5⟩ := spR_cons h
    have h6 := h4 q rfl
    rcases List.mem_cons.1 hs with rfl | hs
    · exact ⟨h6, h1⟩
    · have := spR_lo h5 s hs
      omega
theorem inS_less {v q : Int} {l : List Sp} (h : spR (some q) l = true) (hv : v ≤ q + 1) : inS v l = false := by
  unfold inS
  rw [List.any_eq_false]
  intro s hs
  have := spR_lo h s hs
  simp; omega
theorem plR_less {v q : Int} : ∀ {l : List Sp} {n : Int}, spR (some q) l = true → v ≤ q + 1 → plR v l n = n
  | [], n, _, _ => rfl
  | s :: r, n, h, hv => by
    obtain ⟨h1, h2, h3, h4, h5⟩ := spR_cons h
    have h6 := h4 q rfl
    unfold plR
    rw [if_neg (by omega), if_neg (by omega)]
    exact plR_less h5 (by omega)
theorem inS_cons {v : Int} {s : Sp} {r : List Sp} : inS v (s :: r) = ((decide (s.lo ≤ v) && decide (v ≤ s.hi)) || inS v r) := rfl
/-- both tell the same place -/
theorem plS_plR {v : Int} : ∀ {l : List Sp} {p : Option Int} {n : Int}, spR p l = true → plS v l n = if inS v l = true then plR v l n else -1
  | [], p, n, _ => rfl
  | s :: r, p, n, h => by
    obtain ⟨h1, h2, h3, h4, h5⟩ := spR_cons h
    unfold plS plR
    rw [inS_cons]
    by_cases c1 : v < s.lo
    · rw [if_pos c1, inS_less h5 (by omega)]
      simp; omega
    · rw [if_neg c1]
      by_cases c2 : v ≤ s.hi
      · rw [if_pos c2, if_pos (by simp; left; omega), if_neg (by omega), if_pos (by omega), plR_less h5 (by omega)]
      · have e : (decide (s.lo ≤ v) && decide (v ≤ s.hi)) = false := by simp; omega
        rw [if_neg c2, e, Bool.false_or, plS_plR h5, if_pos (show s.hi < v by omega), show n + (s.hi - s.lo + 1) = n + s.hi + 1 - s.lo by omega]
theorem plR_ge {v : Int} : ∀ {l : List Sp} {p : Option Int} {n : Int}, spR p l = true → n ≤ plR v l n
  | [], p, n, _ => Int.le_refl _
  | s :: r, p, n, h => by
    obtain ⟨h1, h2, h3, h4, h5⟩ := spR_cons h
    unfold plR
    have := plR_ge (v := v) (n := if s.hi < v then n + s.hi + 1 - s.lo else if s.lo ≤ v then n + v - s.lo else n) h5
    split at this
    · rename_i c; rw [if_pos c]; omega
    · rename_i c
      rw [if_neg c]
      split at this
      · rename_i c2; rw [if_pos c2]; omega
      · rename_i c2; rw [if_neg c2]; exact this
/-- what stands at a place stands there -/
theorem atS_pl : ∀ {l : List Sp} {p : Option Int} {k n : Int}, spR p l = true → 0 ≤ k → k < spS l → ∃ v, atS l k = (v, true) ∧ inS v l = true ∧ plR v l n = n + k ∧ (∀ q, p = some q → q + 1 < v)
  | [], p, k, n, _, h0, hk => by simp [spS] at hk; omega
  | s :: r, p, k, n, h, h0, hk => by
    obtain ⟨h1, h2, h3, h4, h5⟩ := spR_cons h
    have e : spS (s :: r) = (s.hi - s.lo + 1) + spS r := rfl
    unfold atS plR
    by_cases c : k < s.hi - s.lo + 1
    · rw [if_pos c]
      refine ⟨s.lo + k, rfl, by rw [inS_cons]; simp; left; omega, ?_, fun q e => by have := h4 q e; omega⟩
      rw [if_neg (by omega), if_pos (by omega), plR_less h5 (by omega)]
      omega
    · rw [if_neg c]
      obtain ⟨v, k1, k2, k3, k4⟩ := atS_pl (k := k - (s.hi - s.lo + 1)) (n := n + s.hi + 1 - s.lo) h5 (by omega) (by omega)
      have k5 := k4 s.hi rfl
      refine ⟨v, k1, by rw [inS_cons, k2, Bool.or_true], ?_, fun q e => by have := h4 q e; omega⟩
      rw [if_pos (by omega), k3]
      omega
end Go.RR.M
set_option linter.unusedVariables false
set_option linter.unusedSimpArgs false
set_option maxRecDepth 100000
set_option maxHeartbeats 4000000
namespace Go.RR.M
open Go Go.RR
theorem at_loop (l : List Sp) (hl : l.length ≤ 1000000) (hb : ∀ s ∈ l, s.lo ≤ s.hi ∧ -1048576 ≤ s.lo ∧ s.hi ≤ 1048576) : ∀ (d i : Nat) (k : Int) (h : List Ob), i + d = l.length → -2199023255552 ≤ k ∧ k ≤ 2199023255552 → 0 ≤ k → k < spS (l.drop i) →
    ∃ h', evw C y0 i_spans_At_l0 [(1, iv k), (17, spsV l), (18, iv l.length), (19, iv i)] h = some (.ret, [(4, iv (atS (l.drop i) k).1), (5, .bool (atS (l.drop i) k).2)], h')
  | 0, i, k, h, e, hk, h0, h1 => by
    obtain rfl : i = l.length := by omega
    rw [List.drop_length] at h1
    simp only [spS] at h1
    omega
  | d + 1, i, k, h, e, hk, h0, h1 => by
    have hlt : i < l.length := by omega
    have h2 : (i : Int) < l.length := by omega
    have h3 : l[i]? = some l[i] := by simp [hlt]
    have hw := wrap_succ (i := i) (n := l.length) hlt (by omega)
    have hs := hb l[i] (List.getElem_mem hlt)
    rw [List.drop_eq_getElem_cons hlt] at h1 ⊢
    simp only [spS] at h1
    have w1 : IntKind.i64.wrap (l[i].hi - l[i].lo) = l[i].hi - l[i].lo := wrap64 (by omega) (by omega)
    have w2 : IntKind.i64.wrap (l[i].hi - l[i].lo + 1) = l[i].hi - l[i].lo + 1 := wrap64 (by omega) (by omega)
    by_cases c : k < l[i].hi - l[i].lo + 1
    · have w3 : IntKind.i64.wrap (l[i].lo + k) = l[i].lo + k := wrap64 (by omega) (by omega)
      refine ⟨h ++ [.row 2 [spV l[i]]], ?_⟩
      rw [r_spans_At_0]
      unfold atS
      rw [if_pos c]
      simp [b_spans_At_0, h2, h3, w1, w2, w3, c]
    · have w3 : IntKind.i64.wrap (k - (l[i].hi - l[i].lo + 1)) = k - (l[i].hi - l[i].lo + 1) := wrap64 (by omega) (by omega)
      obtain ⟨h', ih⟩ := at_loop l hl hb d (i + 1) (k - (l[i].hi - l[i].lo + 1)) (h ++ [.row 2 [spV l[i]]]) (by omega) (by omega) (by omega) (by omega)
      refine ⟨h', ?_⟩
      unfold atS
      rw [if_neg c, ← ih, r_spans_At_0]
      simp [b_spans_At_0, h2, h3, w1, w2, w3, c, hw]
/-- the number at a place -/
def atV (l : List Sp) (k : Int) : Int × Bool := if k < 0 ∨ spN l ≤ k then (0, false) else atS l k
theorem spans_At (l : List Sp) (hl : l.length ≤ 1000000) (k : Int) (h : List Ob) : acw C n_spans_At [spsV l, iv k] h = some (.ret (.tup [iv (atV l k).1, .bool (atV l k).2]), h) := by
  have k1 := spans_Size l (by omega)
  by_cases c1 : k < 0
  · refine acw_ex (v := .tup [iv (atV l k).1, .bool (atV l k).2]) (CT T_spans_At) rfl rfl (fun _ => rfl) (by simp) ?_
    simp [runW_fin, F_spans_At, i_spans_At, c1, atV]
  by_cases c2 : spN l ≤ k
  · refine acw_ex (v := .tup [iv (atV l k).1, .bool (atV l k).2]) (CT T_spans_At) rfl rfl (fun _ => rfl) (by simp) ?_
    simp [runW_fin, F_spans_At, i_spans_At, c1, c2, atV, k1]
  have hr : spR none l = true := by
    cases e : spR none l with
    | true => rfl
    | false => simp [spN, e] at c2; omega
  have hn : spN l = spS l := by simp [spN, hr]
  have ht := spS_top hr
  obtain ⟨h', ih⟩ := at_loop l hl (spR_all hr) l.length 0 k [] (by omega) (by omega) (by omega) (by rw [List.drop_zero]; omega)
  rw [List.drop_zero] at ih
  simp only [Int.cast_ofNat_Int] at ih
  refine acw_ex (v := .tup [iv (atV l k).1, .bool (atV l k).2]) (CT T_spans_At) rfl rfl (fun _ => rfl) (by simp) ?_
  have e : atV l k = atS l k := by unfold atV; rw [if_neg (by omega)]
  rw [e]
  exact ⟨h', by simp [runW_fin, F_spans_At, i_spans_At, c1, c2, k1, ih]⟩
end Go.RR.M
set_option linter.unusedVariables false
set_option linter.unusedSimpArgs false
set_option maxRecDepth 100000
set_option maxHeartbeats 4000000
namespace Go.RR.M
open Go Go.RR
theorem place_loop (l : List Sp) (hl : l.length ≤ 1000000) (hb : ∀ s ∈ l, s.lo ≤ s.hi ∧ -1048576 ≤ s.lo ∧ s.hi ≤ 1048576) (v : Int) : ∀ (d i : Nat) (n : Int) (h : List Ob), i + d = l.length → 0 ≤ n → n + spS (l.drop i) ≤ 2097153 →
    ∃ fr' h', evw C y0 i_spans_Place_l0 [(1, iv v), (5, iv n), (11, spsV l), (12, iv l.length), (13, iv i)] h = some (if plS v (l.drop i) n = -1 then (.ext 0, fr', h') else (.ret, [(4, iv (plS v (l.drop i) n))], h'))
  | 0, i, n, h, e, h0, h1 => by
    obtain rfl : i = l.length := by omega
    refine ⟨[(1, iv v), (5, iv n), (11, spsV l), (12, iv l.length), (13, iv l.length), (14, .bool false)], h, ?_⟩
    rw [List.drop_length, r_spans_Place_0]
    simp [b_spans_Place_0, plS]
  | d + 1, i, n, h, e, h0, h1 => by
    have hlt : i < l.length := by omega
    have h2 : (i : Int) < l.length := by omega
    have h3 : l[i]? = some l[i] := by simp [hlt]
    have hw := wrap_succ (i := i) (n := l.length) hlt (by omega)
    have hs := hb l[i] (List.getElem_mem hlt)
    have hnn : 0 ≤ spS (l.drop (i + 1)) := spS_nn fun s hs => hb s (List.mem_of_mem_drop hs)
    rw [List.drop_eq_getElem_cons hlt] at h1 ⊢
    simp only [spS] at h1
    unfold plS
    by_cases c1 : v < l[i].lo
    · rw [if_pos c1]
      refine ⟨[(1, iv v), (5, iv n), (7, .ptr h.length 0 0 1), (11, spsV l), (12, iv l.length), (13, iv i), (17, .bool true)], h ++ [.row 2 [spV l[i]]], ?_⟩
      rw [r_spans_Place_0]
      simp [b_spans_Place_0, h2, h3, c1]
    rw [if_neg c1]
    by_cases c2 : v ≤ l[i].hi
    · rw [if_pos c2]
      have w1 : IntKind.i64.wrap (n + v) = n + v := wrap64 (by omega) (by omega)
      have w2 : IntKind.i64.wrap (n + v - l[i].lo) = n + v - l[i].lo := wrap64 (by omega) (by omega)
      have c3 : ¬ (n + v - l[i].lo = -1) := by omega
      refine ⟨[], h ++ [.row 2 [spV l[i]]], ?_⟩
      rw [if_neg c3, r_spans_Place_0]
      simp [b_spans_Place_0, h2, h3, c1, c2, w1, w2]
    · rw [if_neg c2]
      have w1 : IntKind.i64.wrap (l[i].hi - l[i].lo) = l[i].hi - l[i].lo := wrap64 (by omega) (by omega)
      have w2 : IntKind.i64.wrap (l[i].hi - l[i].lo + 1) = l[i].hi - l[i].lo + 1 := wrap64 (by omega) (by omega)
      have w3 : IntKind.i64.wrap (n + (l[i].hi - l[i].lo + 1)) = n + (l[i].hi - l[i].lo + 1) := wrap64 (by omega) (by omega)
      obtain ⟨fr', h', ih⟩ := place_loop l hl hb v d (i + 1) (n + (l[i].hi - l[i].lo + 1)) (h ++ [.row 2 [spV l[i]]]) (by omega) (by omega) (by omega)
      refine ⟨fr', h', ?_⟩
      rw [← ih, r_spans_Place_0]
      simp [b_spans_Place_0, h2, h3, c1, c2, w1, w2, w3, hw]
/-- where a number stands -/
def plV (l : List Sp) (v : Int) : Int := if spR none l = true then plS v l 0 else -1
theorem spans_Place (l : List Sp) (hl : l.length ≤ 1000000) (v : Int) (h : List Ob) : acw C n_spans_Place [spsV l, iv v] h = some (.ret (iv (plV l v)), h) := by
  have k1 := spans_Right l (by omega)
  refine acw_ex (v := iv (plV l v)) (CT T_spans_Place) rfl rfl (fun _ => rfl) (by simp) ?_
  cases e : spR none l with
  | false =>
    rw [e] at k1
    simp [runW_fin, F_spans_Place, i_spans_Place, k1, plV, e]
  | true =>
    rw [e] at k1
    have ht := spS_top e
    obtain ⟨fr', h', ih⟩ := place_loop l hl (spR_all e) v l.length 0 0 [] (by omega) (Int.le_refl _) (by rw [List.drop_zero]; omega)
    rw [List.drop_zero] at ih
    simp only [Int.cast_ofNat_Int] at ih
    have e2 : plV l v = plS v l 0 := by simp [plV, e]
    rw [e2]
    by_cases c : plS v l 0 = -1
    · rw [if_pos c] at ih
      exact ⟨h', by simp [runW_fin, F_spans_Place, i_spans_Place, k1, ih, c]⟩
    · rw [if_neg c] at ih
      exact ⟨h', by simp [runW_fin, F_spans_Place, i_spans_Place, k1, ih]⟩
theorem spans_Has (l : List Sp) (hl : l.length ≤ 1000000) (v : Int) (h : List Ob) : acw C n_spans_Has [spsV l, iv v] h = some (.ret (.bool (decide (0 ≤ plV l v))), h) := by
  have k1 := spans_Place l hl v
  refine acw_ex (v := .bool (decide (0 ≤ plV l v))) (CT T_spans_Has) rfl rfl (fun _ => rfl) (by simp) ?_
  simp [runW_fin, F_spans_Has, i_spans_Has, k1]
theorem rin_loop (l : List Sp) (hl : l.length ≤ 1000000) (v : Int) (h : List Ob) : ∀ (d i : Nat), i + d = l.length →
    evw C y0 i_ref03_In_l0 [(0, spsV l), (1, iv v), (5, iv i)] h = some (if inS v (l.drop i) = true then (.ret, [(4, .bool true)], h) else (.ext 0, [(0, spsV l), (1, iv v), (5, iv l.length), (9, .bool false)], h))
  | 0, i, e => by
    obtain rfl : i = l.length := by omega
    rw [List.drop_length, r_ref03_In_0]
    simp [b_ref03_In_0, inS]
  | d + 1, i, e => by
    have hlt : i < l.length := by omega
    have h2 : (i : Int) < l.length := by omega
    have h3 : l[i]? = some l[i] := by simp [hlt]
    have hw := wrap_succ (i := i) (n := l.length) hlt (by omega)
    have ih := rin_loop l hl v h d (i + 1) (by omega)
    simp only [Int.natCast_add, Int.cast_ofNat_Int] at ih
    rw [List.drop_eq_getElem_cons hlt, inS_cons, r_ref03_In_0]
    by_cases c1 : l[i].lo ≤ v
    · by_cases c2 : v ≤ l[i].hi
      · simp [b_ref03_In_0, h2, h3, c1, c2]
      · have e : (decide (l[i].lo ≤ v) && decide (v ≤ l[i].hi)) = false := by simp [c2]
        rw [e, Bool.false_or, ← ih]
        simp [b_ref03_In_0, h2, h3, c1, c2, hw]
    · have e : (decide (l[i].lo ≤ v) && decide (v ≤ l[i].hi)) = false := by simp [c1]
      rw [e, Bool.false_or, ← ih]
      simp [b_ref03_In_0, h2, h3, c1, hw]
theorem ref03_In (l : List Sp) (hl : l.length ≤ 1000000) (v : Int) (h : List Ob) : acw C n_ref03_In [spsV l, iv v] h = some (.ret (.bool (inS v l)), h) := by
  have ih := rin_loop l hl v [] l.length 0 (by omega)
  rw [List.drop_zero] at ih
  simp only [Int.cast_ofNat_Int] at ih
  refine acw_ex (v := .bool (inS v l)) (CT T_ref03_In) rfl rfl (fun _ => rfl) (by simp) ?_
  cases e : inS v l with
  | true => rw [e] at ih; simp [runW_fin, F_ref03_In, i_ref03_In, ih]
  | false => rw [e] at ih; simp [runW_fin, F_ref03_In, i_ref03_In, ih]
theorem rpl_loop (l : List Sp) (hl : l.length ≤ 1000000) (hb : ∀ s ∈ l, s.lo ≤ s.hi ∧ -1048576 ≤ s.lo ∧ s.hi ≤ 1048576) (v : Int) (h : List Ob) : ∀ (d i : Nat) (n : Int), i + d = l.length → 0 ≤ n → n + spS (l.drop i) ≤ 2097153 →
    evw C y0 i_ref03_Place_l0 [(0, spsV l), (1, iv v), (5, iv n), (6, iv i)] h = some (.ext 0, [(0, spsV l), (1, iv v), (5, iv (plR v (l.drop i) n)), (6, iv l.length), (19, .bool false)], h)
  | 0, i, n, e, h0, h1 => by
    obtain rfl : i = l.length := by omega
    rw [List.drop_length, r_ref03_Place_0]
    simp [b_ref03_Place_0, plR]
  | d + 1, i, n, e, h0, h1 => by
    have hlt : i < l.length := by omega
    have h2 : (i : Int) < l.length := by omega
    have h3 : l[i]? = some l[i] := by simp [hlt]
    have hw := wrap_succ (i := i) (n := l.length) hlt (by omega)
    have hs := hb l[i] (List.getElem_mem hlt)
    have hnn : 0 ≤ spS (l.drop (i + 1)) := spS_nn fun s hs => hb s (List.mem_of_mem_drop hs)
    rw [List.drop_eq_getElem_cons hlt] at h1 ⊢
    simp only [spS] at h1
    unfold plR
    by_cases c1 : l[i].hi < v
    · rw [if_pos c1]
      have w1 : IntKind.i64.wrap (n + l[i].hi) = n + l[i].hi := wrap64 (by omega) (by omega)
      have w2 : IntKind.i64.wrap (n + l[i].hi + 1) = n + l[i].hi + 1 := wrap64 (by omega) (by omega)
      have w3 : IntKind.i64.wrap (n + l[i].hi + 1 - l[i].lo) = n + l[i].hi + 1 - l[i].lo := wrap64 (by omega) (by omega)
      have ih := rpl_loop l hl hb v h d (i + 1) (n + l[i].hi + 1 - l[i].lo) (by omega) (by omega) (by omega)
      simp only [Int.natCast_add, Int.cast_ofNat_Int] at ih
      rw [← ih, r_ref03_Place_0]
      simp [b_ref03_Place_0, h2, h3, c1, w1, w2, w3, hw]
    · rw [if_neg c1]
      by_cases c2 : l[i].lo ≤ v
      · rw [if_pos c2]
        have w1 : IntKind.i64.wrap (n + v) = n + v := wrap64 (by omega) (by omega)
        have w2 : IntKind.i64.wrap (n + v - l[i].lo) = n + v - l[i].lo := wrap64 (by omega) (by omega)
        have ih := rpl_loop l hl hb v h d (i + 1) (n + v - l[i].lo) (by omega) (by omega) (by omega)
        simp only [Int.natCast_add, Int.cast_ofNat_Int] at ih
        rw [← ih, r_ref03_Place_0]
        simp [b_ref03_Place_0, h2, h3, c1, c2, w1, w2, hw]
      · rw [if_neg c2]
        have ih := rpl_loop l hl hb v h d (i + 1) n (by omega) h0 (by omega)
        simp only [Int.natCast_add, Int.cast_ofNat_Int] at ih
        rw [← ih, r_ref03_Place_0]
        simp [b_ref03_Place_0, h2, h3, c1, c2, hw]
theorem plV_ref (l : List Sp) (v : Int) : plV l v = if spR none l = true ∧ inS v l = true then plR v l 0 else -1 := by
  unfold plV
  by_cases e : spR none l = true
  · rw [if_pos e, plS_plR e]
    simp [e]
  · rw [if_neg e, if_neg fun c => e c.1]
theorem ref03_Place (l : List Sp) (hl : l.length ≤ 1000000) (v : Int) (h : List Ob) : acw C n_ref03_Place [spsV l, iv v] h = some (.ret (iv (plV l v)), h) := by
  have k1 := ref03_Right l (by omega)
  have k2 := ref03_In l hl v
  have e2 := plV_ref l v
  refine acw_ex (v := iv (plV l v)) (CT T_ref03_Place) rfl rfl (fun _ => rfl) (by simp) ?_
  cases e : spR none l with
  | false =>
    rw [e] at k1 e2
    simp at e2
    simp [runW_fin, F_ref03_Place, i_ref03_Place, k1, e2]
  | true =>
    rw [e] at k1 e2
    cases e3 : inS v l with
    | false =>
      rw [e3] at k2 e2
      simp at e2
      simp [runW_fin, F_ref03_Place, i_ref03_Place, k1, k2, e2]
    | true =>
      rw [e3] at k2 e2
      simp at e2
      have ht := spS_top e
      have ih := rpl_loop l hl (spR_all e) v [] l.length 0 0 (by omega) (Int.le_refl _) (by rw [List.drop_zero]; omega)
      rw [List.drop_zero] at ih
      simp only [Int.cast_ofNat_Int] at ih
      simp [runW_fin, F_ref03_Place, i_ref03_Place, k1, k2, e2, ih]
end Go.RR.M
set_option linter.unusedVariables false
set_option linter.unusedSimpArgs false
set_option maxRecDepth 100000
set_option maxHeartbeats 8000000
namespace Go.RR.M
open Go Go.RR
theorem has_eq (l : List Sp) (v : Int) : decide (0 ≤ plV l v) = (spR none l && inS v l) := by
  rw [plV_ref]
  cases e : spR none l with
  | false => simp
  | true =>
    cases e2 : inS v l with
    | false => simp
    | true =>
      have := plR_ge (v := v) (n := 0) e
      simp; omega
theorem spR_of {l : List Sp} {k : Int} (h0 : ¬ k < 0) (h1 : ¬ spN l ≤ k) : spR none l = true ∧ spN l = spS l := by
  cases e : spR none l with
  | true => exact ⟨rfl, by simp [spN, e]⟩
  | false => simp [spN, e] at h1; omega
theorem refS_len : ∀ (n : Nat) (s : List Int) (out : List Sp), (refS n s out).length ≤ out.length + n
  | 0, _, _ => Nat.le_refl _
  | n + 1, [], _ => by simp [refS]
  | n + 1, x :: r, out => by
    have := refS_len n (r.filter fun v => decide (x < v)) (outR out x)
    have h2 := outR_len out x
    simp only [refS]
    omega
theorem ofL_len : ∀ (s : List Int) (out r : List Sp), ofL out s = some r → r.length ≤ out.length + s.length
  | [], out, r, h => by cases h; simp
  | x :: s, out, r, h => by
    simp only [ofL] at h
    split at h <;> try contradiction
    have := ofL_len s _ r h
    have h2 := putS_len out ⟨x, x⟩
    simp only [List.length_cons]
    omega
theorem ofR_len (l : List Int) : (ofR l).1.length ≤ l.length := by
  unfold ofR
  split
  · rename_i r e
    have := ofL_len _ _ _ e
    rw [sortI_length] at this
    simpa using this
  · simp
theorem tells (l : List Sp) (v k : Int) (vs : List Int) (h : List Ob) : acw C n_law03_SpansTells [spsV l, iv v, iv k, intsV vs] h = some (.ret (.bool true), h) := by
  refine acw_ex (v := .bool true) (CT T_law03_SpansTells) rfl rfl (fun _ => rfl) (by simp) ?_
  have k0 := awake
  by_cases c1 : (60 : Int) < l.length
  · have c1' : (60 : Int) < l.length := by omega
    simp [runW_fin, F_law03_SpansTells, i_law03_SpansTells, k0, c1, c1']
  by_cases c2 : (60 : Int) < vs.length
  · have c2' : (60 : Int) < vs.length := by omega
    simp [runW_fin, F_law03_SpansTells, i_law03_SpansTells, k0, c1, c2, c2']
  have k1 := ref03_Right l (by omega)
  have k2 := spans_Right l (by omega)
  have k3 := spans_Size l (by omega)
  have k4 := ref03_Size l (by omega)
  have k5 := spans_Has l (by omega) v
  have k6 := ref03_In l (by omega) v
  have k7 := spans_Place l (by omega)
  have k8 := ref03_Place l (by omega)
  have k9 := spans_Of vs (by omega)
  have k10 := ref03_Of vs (by omega)
  have k11 := spans_At l (by omega) k
  have k12 := ref03_Same (ofR vs).1 (ofR vs).1 (by
    have : (ofR vs).1.length ≤ 1000000 := by
      have := ofR_len vs
      omega
    omega)
  rw [has_eq] at k5
  simp only [decide_true] at k12
  by_cases c3 : k < 0
  · have e : atV l k = (0, false) := by simp [atV, c3]
    have c3' : ¬ 0 ≤ k := by omega
    rw [e] at k11
    cases er : spR none l with
    | false => rw [er] at k1 k2 k5; simp [runW_fin, F_law03_SpansTells, i_law03_SpansTells, k0, c1, c2, k1, k2, k3, k4, k5, k6, k7, k8, k9, k10, k11, k12, c3, c3', ieq, ine]
    | true =>
      rw [er] at k1 k2 k5
      cases ei : inS v l with
      | false => rw [ei] at k5 k6; simp [runW_fin, F_law03_SpansTells, i_law03_SpansTells, k0, c1, c2, k1, k2, k3, k4, k5, k6, k7, k8, k9, k10, k11, k12, c3, c3', ieq, ine]
      | true => rw [ei] at k5 k6; simp [runW_fin, F_law03_SpansTells, i_law03_SpansTells, k0, c1, c2, k1, k2, k3, k4, k5, k6, k7, k8, k9, k10, k11, k12, c3, c3', ieq, ine]
  have c3' : 0 ≤ k := by omega
  by_cases c4 : spN l ≤ k
  · have e : atV l k = (0, false) := by simp [atV, c4]
    have c4' : ¬ k < spN l := by omega
    rw [e] at k11
    cases er : spR none l with
    | false => rw [er] at k1 k2 k5; simp [runW_fin, F_law03_SpansTells, i_law03_SpansTells, k0, c1, c2, k1, k2, k3, k4, k5, k6, k7, k8, k9, k10, k11, k12, c3, c3', c4, c4', ieq, ine]
    | true =>
      rw [er] at k1 k2 k5
      cases ei : inS v l with
      | false => rw [ei] at k5 k6; simp [runW_fin, F_law03_SpansTells, i_law03_SpansTells, k0, c1, c2, k1, k2, k3, k4, k5, k6, k7, k8, k9, k10, k11, k12, c3, c3', c4, c4', ieq, ine]
      | true => rw [ei] at k5 k6; simp [runW_fin, F_law03_SpansTells, i_law03_SpansTells, k0, c1, c2, k1, k2, k3, k4, k5, k6, k7, k8, k9, k10, k11, k12, c3, c3', c4, c4', ieq, ine]
  obtain ⟨er, en⟩ := spR_of c3 c4
  have c4' : k < spN l := by omega
  obtain ⟨n, a1, a2, a3, -⟩ := atS_pl (n := 0) er c3' (by omega)
  have e : atV l k = (n, true) := by unfold atV; rw [if_neg (by omega), a1]
  have e2 : plV l n = k := by rw [plV_ref, if_pos ⟨er, a2⟩, a3]; omega
  rw [e] at k11
  have k13 := k8 n
  rw [e2] at k13
  rw [er] at k1 k2 k5
  have k8v := k8 v
  have k7v := k7 v
  clear k8 k7
  cases ei : inS v l with
  | false => rw [ei] at k5 k6; simp [runW_fin, F_law03_SpansTells, i_law03_SpansTells, k0, c1, c2, k1, k2, k3, k4, k5, k6, k7v, k8v, k9, k10, k11, k12, k13, c3, c3', c4, c4', ieq, ine]
  | true => rw [ei] at k5 k6; simp [runW_fin, F_law03_SpansTells, i_law03_SpansTells, k0, c1, c2, k1, k2, k3, k4, k5, k6, k7v, k8v, k9, k10, k11, k12, k13, c3, c3', c4, c4', ieq, ine]
end Go.RR.M
set_option linter.unusedVariables false
set_option linter.unusedSimpArgs false
set_option maxRecDepth 100000
namespace Go.RR.M
open Go Go.RR
theorem spR_snoc : ∀ {pre : List Sp} {p : Option Int} {t : Sp}, spR p (pre ++ [t]) = true ↔ spR p pre = true ∧ t.lo ≤ t.hi ∧ -1048576 ≤ t.lo ∧ t.hi ≤ 1048576 ∧ (∀ q, (match pre.getLast? with | some s => some s.hi | none => p) = some q → q + 1 < t.lo)
  | [], p, t => by
    cases p with
    | none => simp [spR, and_assoc]
    | some q => simp [spR, and_assoc]
  | s :: r, p, t => by
    have ih := spR_snoc (pre := r) (p := some s.hi) (t := t)
    have e : (match (s :: r).getLast? with | some s => some s.hi | none => p) = (match r.getLast? with | some s => some s.hi | none => some s.hi) := by
      cases r with
      | nil => rfl
      | cons a r => rw [List.getLast?_cons_cons, List.getLast?_eq_some_getLast (by simp)]
    rw [e]
    simp only [List.cons_append, spR, Bool.and_eq_true, decide_eq_true_eq]
    rw [ih]
    constructor
    · rintro ⟨h1, h2, h3⟩; exact ⟨⟨h1, h2⟩, h3⟩
    · rintro ⟨⟨h1, h2⟩, h3⟩; exact ⟨h1, h2, h3⟩
theorem inS_append {v : Int} {a b : List Sp} : inS v (a ++ b) = (inS v a || inS v b) := List.any_append
theorem inS_one {v : Int} {s : Sp} : inS v [s] = (decide (s.lo ≤ v) && decide (v ≤ s.hi)) := by simp [inS]
/-- a span put behind a right list, behind all that is in it -/
theorem putS_right {acc : List Sp} {s : Sp} (h : spR none acc = true) (hs : s.lo ≤ s.hi ∧ -1048576 ≤ s.lo ∧ s.hi ≤ 1048576) (hb : ∀ t ∈ acc, t.hi < s.lo) :
    spR none (putS acc s) = true ∧ (∀ v, inS v (putS acc s) = (inS v acc || inS v [s])) ∧ ∀ t ∈ putS acc s, t.hi ≤ s.hi := by
  by_cases e : acc = []
  · subst e
    refine ⟨by simp [putS_nil, spR]; omega, fun v => by simp [putS_nil, inS], by simp [putS_nil]⟩
  · obtain ⟨pre, t, rfl⟩ : ∃ pre t, acc = pre ++ [t] := ⟨acc.dropLast, acc.getLast e, (List.dropLast_concat_getLast e).symm⟩
    have ht := hb t (by simp)
    obtain ⟨h1, h2, h3, h4, h5⟩ := spR_snoc.1 h
    rw [putS_end]
    by_cases c : s.lo ≤ t.hi + 1
    · rw [if_pos c]
      refine ⟨spR_snoc.2 ⟨h1, by simp only; omega, h3, by simp only; omega, h5⟩, fun v => ?_, fun x hx => ?_⟩
      · rw [inS_append, inS_append, inS_one, inS_one, inS_one, Bool.or_assoc]
        congr 1
        simp only
        rw [Bool.eq_iff_iff]
        simp only [Bool.and_eq_true, Bool.or_eq_true, decide_eq_true_eq]
        omega
      · rcases List.mem_append.1 hx with hx | hx
        · have := hb x (by simp [hx]); omega
        · simp only [List.mem_singleton] at hx; subst hx; simp only; omega
    · rw [if_neg c]
      refine ⟨spR_snoc.2 ⟨h, hs.1, hs.2.1, hs.2.2, fun q hq => by simp at hq; omega⟩, fun v => by rw [inS_append], fun x hx => ?_⟩
      rcases List.mem_append.1 hx with hx | hx
      · have := hb x hx; omega
      · simp only [List.mem_singleton] at hx; subst hx; omega
def segs (K : Int → Bool) : List Int → List Sp → List Sp
  | low :: nxt :: r, acc => segs K (nxt :: r) (if K low = true then putS acc ⟨low, nxt - 1⟩ else acc)
  | _, acc => acc
def segIn (K : Int → Bool) (v : Int) : List Int → Bool
  | low :: nxt :: r => (K low && (decide (low ≤ v) && decide (v < nxt))) || segIn K v (nxt :: r)
  | _ => false
theorem segs_right (K : Int → Bool) : ∀ (E : List Int) (acc : List Sp), E.Pairwise (· < ·) → (∀ x ∈ E, -1048576 ≤ x ∧ x ≤ 1048577) → spR none acc = true → (∀ t ∈ acc, ∀ x ∈ E, t.hi < x) →
    spR none (segs K E acc) = true ∧ ∀ v, inS v (segs K E acc) = (inS v acc || segIn K v E)
  | [], acc, _, _, h, _ => ⟨h, fun v => by simp [segs, segIn]⟩
  | [x], acc, _, _, h, _ => ⟨h, fun v => by simp [segs, segIn]⟩
  | low :: nxt :: r, acc, hp, hb, h, hx => by
    have hlt : low < nxt := (List.pairwise_cons.1 hp).1 nxt (by simp)
    have hl := hb low (by simp)
    have hn := hb nxt (by simp)
    have hr : ∀ x ∈ nxt :: r, nxt ≤ x := fun x hx => by
      rcases List.mem_cons.1 hx with rfl | hx
      · exact Int.le_refl _
      · exact Int.le_of_lt ((List.pairwise_cons.1 (List.pairwise_cons.1 hp).2).1 x hx)
    unfold segs segIn
    by_cases c : K low = true
    · rw [if_pos c]
      obtain ⟨k1, k2, k3⟩ := putS_right (s := ⟨low, nxt - 1⟩) h ⟨by simp only; omega, hl.1, by simp only; omega⟩ (fun t ht => hx t ht low (by simp))
      obtain ⟨g1, g2⟩ := segs_right K (nxt :: r) _ (List.pairwise_cons.1 hp).2 (fun x hx => hb x (by simp [List.mem_cons.1 hx])) k1 (fun t ht x hx => by have := k3 t ht; have := hr x hx; simp only at *; omega)
      refine ⟨g1, fun v => ?_⟩
      rw [g2, k2, inS_one, c, Bool.true_and, Bool.or_assoc]
      congr 2
      rw [Bool.eq_iff_iff]
      simp only [Bool.and_eq_true, decide_eq_true_eq]
      omega
    · rw [if_neg c]
      have c' : K low = false := by simpa using c
      obtain ⟨g1, g2⟩ := segs_right K (nxt :: r) acc (List.pairwise_cons.1 hp).2 (fun x hx => hb x (by simp [List.mem_cons.1 hx])) h (fun t ht x hx' => hx t ht x (by simp [List.mem_cons.1 hx']))
      exact ⟨g1, fun v => by rw [g2, c', Bool.false_and, Bool.false_or]⟩
/-- where nothing changes between two ends -/
theorem segIn_eq (K : Int → Bool) (v : Int) : ∀ (E : List Int), E.Pairwise (· < ·) → (∀ u w, (∀ x, E.head? = some x → x ≤ u) → u ≤ w → (∀ x ∈ E, ¬ (u < x ∧ x ≤ w)) → K u = K w) → (∀ x, E.head? = some x → v < x → K v = false) → (∀ x, E.getLast? = some x → x ≤ v → K v = false) → (E = [] → K v = false) → segIn K v E = K v
  | [], _, _, _, _, h => (h rfl).symm
  | [x], _, _, h1, h2, _ => by
    show false = K v
    rcases Int.lt_or_le v x with h | h
    · exact (h1 x rfl h).symm
    · exact (h2 x rfl h).symm
  | low :: nxt :: r, hp, hK, h1, h2, h3 => by
    have hlt : low < nxt := (List.pairwise_cons.1 hp).1 nxt (by simp)
    have hr : ∀ x ∈ nxt :: r, nxt ≤ x := fun x hx => by
      rcases List.mem_cons.1 hx with rfl | hx
      · exact Int.le_refl _
      · exact Int.le_of_lt ((List.pairwise_cons.1 (List.pairwise_cons.1 hp).2).1 x hx)
    unfold segIn
    by_cases c1 : v < low
    · have h4 := h1 low rfl c1
      have e : segIn K v (nxt :: r) = false := by
        have : ∀ (E : List Int), E.Pairwise (· < ·) → (∀ x ∈ E, v < x) → segIn K v E = false := by
          intro E
          induction E with
          | nil => intro _ _; rfl
          | cons a E ih =>
            intro hp hv
            cases E with
            | nil => rfl
            | cons b E =>
              unfold segIn
              have := hv a (by simp)
              rw [ih (List.pairwise_cons.1 hp).2 (fun x hx => hv x (by simp [List.mem_cons.1 hx]))]
              simp; omega
        exact this _ (List.pairwise_cons.1 hp).2 fun x hx => by have := hr x hx; omega
      rw [e, h4]
      simp; omega
    by_cases c2 : v < nxt
    · have h4 : K low = K v := hK low v (fun x hx => by simp at hx; omega) (by omega) fun x hx => by
        rcases List.mem_cons.1 hx with rfl | hx
        · omega
        · have := hr x hx; omega
      have e : segIn K v (nxt :: r) = false := by
        have : ∀ (E : List Int), E.Pairwise (· < ·) → (∀ x ∈ E, v < x) → segIn K v E = false := by
          intro E
          induction E with
          | nil => intro _ _; rfl
          | cons a E ih =>
            intro hp hv
            cases E with
            | nil => rfl
            | cons b E =>
              unfold segIn
              have := hv a (by simp)
              rw [ih (List.pairwise_cons.1 hp).2 (fun x hx => hv x (by simp [List.mem_cons.1 hx]))]
              simp; omega
        exact this _ (List.pairwise_cons.1 hp).2 fun x hx => by have := hr x hx; omega
      rw [e, h4]
      have : decide (low ≤ v) = true := by simp; omega
      simp [this, c2]
    · have ih := segIn_eq K v (nxt :: r) (List.pairwise_cons.1 hp).2 (fun u w hu huw hE => hK u w (fun x hx => by have := hu nxt rfl; simp at hx; omega) huw fun x hx => by
        rcases List.mem_cons.1 hx with rfl | hx
        · have := hu nxt rfl; omega
        · exact hE x hx) (fun x hx hv => by simp at hx; omega) (fun x hx hv => h2 x (by rw [List.getLast?_cons_cons]; exact hx) hv) (by simp)
      rw [ih]
      have : decide (v < nxt) = false := by simp; omega
      simp [this]
end Go.RR.M
set_option linter.unusedVariables false
set_option linter.unusedSimpArgs false
set_option maxRecDepth 100000
set_option maxHeartbeats 4000000
namespace Go.RR.M
open Go Go.RR
theorem rv_l0 (h : List Ob) (l : List Sp) (i : Nat) (hlt : i < l.length) (hs : -1048576 ≤ l[i].lo ∧ l[i].hi ≤ 1048576) : ∀ (d : Nat) (v : Int) (acc : List Int), v + d = l[i].hi + 1 → -1048576 ≤ v → acc.length + d ≤ 10000000 →
    evw C y0 i_ref03_Values_l0 [(0, spsV l), (3, .own h.length 0 acc.length acc.length), (4, iv i), (5, iv v)] (h ++ [.row 1 (acc.map (V.int .i64))]) =
      some (.ext 2, [(0, spsV l), (3, .own h.length 0 (acc ++ rng v d).length (acc ++ rng v d).length), (4, iv i), (5, iv (l[i].hi + 1)), (24, .bool false)], h ++ [.row 1 ((acc ++ rng v d).map (V.int .i64))])
  | 0, v, acc, e, hv, ha => by
    have e' : v = l[i].hi + 1 := by omega
    subst e'
    rw [r_ref03_Values_0]
    have h1 : ¬ (l[i].hi + 1 ≤ l[i].hi) := by omega
    have hi : l[i]? = some l[i] := by simp [hlt]
    simp [b_ref03_Values_0, hi, h1, hlt, rng]
  | d + 1, v, acc, e, hv, ha => by
    have h1 : v ≤ l[i].hi := by omega
    have hi : l[i]? = some l[i] := by simp [hlt]
    have ih := rv_l0 h l i hlt hs d (v + 1) (acc ++ [v]) (by omega) (by omega) (by simp; omega)
    have hw : IntKind.i64.wrap (v + 1) = v + 1 := wrap64 (by omega) (by omega)
    have k4 : bsfL (.int .i64 0) [iv v] = some (.sl 1 [iv v]) := rfl
    have k5 : ∀ nid, appV nid (h ++ [.row 1 (acc.map (V.int .i64))]) 1 8 (.own h.length 0 acc.length acc.length) (.sl 1 [iv v]) = some (.own h.length 0 (acc.length + 1) (acc.length + 1), some (h.length, .row 1 (acc.map (V.int .i64) ++ [iv v]))) := fun nid => appV_own (by simp) (by simp) rfl (by simp) (by simp) (by omega) (by omega)
    rw [r_ref03_Values_0, rng, show acc ++ v :: rng (v + 1) d = acc ++ [v] ++ rng (v + 1) d by simp, ← ih]
    simp [b_ref03_Values_0, hi, h1, hlt, k4, k5, hw]
theorem valS_len : ∀ {l : List Sp}, (∀ s ∈ l, s.lo ≤ s.hi ∧ -1048576 ≤ s.lo ∧ s.hi ≤ 1048576) → ((valS l).length : Int) = spS l
  | [], _ => rfl
  | s :: r, h => by
    have h1 := h s (by simp)
    have ih := valS_len (l := r) fun x hx => h x (by simp [hx])
    rw [valS_cons, List.length_append, rng_len]
    simp only [spS]
    omega
theorem rv_l1 (h : List Ob) (l : List Sp) (hl : l.length ≤ 1000000) (hb : ∀ s ∈ l, s.lo ≤ s.hi ∧ -1048576 ≤ s.lo ∧ s.hi ≤ 1048576) : ∀ (d i : Nat) (acc : List Int), i + d = l.length → acc.length + spS (l.drop i) ≤ 10000000 →
    evw C y0 i_ref03_Values_l1 [(0, spsV l), (3, .own h.length 0 acc.length acc.length), (4, iv i)] (h ++ [.row 1 (acc.map (V.int .i64))]) =
      some (.ext 0, [(0, spsV l), (3, .own h.length 0 (acc ++ valS (l.drop i)).length (acc ++ valS (l.drop i)).length), (4, iv l.length), (10, .bool false)], h ++ [.row 1 ((acc ++ valS (l.drop i)).map (V.int .i64))])
  | 0, i, acc, e, ha => by
    obtain rfl : i = l.length := by omega
    rw [List.drop_length, r_ref03_Values_1]
    simp [b_ref03_Values_1, valS]
  | d + 1, i, acc, e, ha => by
    have hlt : i < l.length := by omega
    have h2 : (i : Int) < l.length := by omega
    have h3 : l[i]? = some l[i] := by simp [hlt]
    have hw := wrap_succ (i := i) (n := l.length) hlt (by omega)
    have hs := hb l[i] (List.getElem_mem hlt)
    have hnn : 0 ≤ spS (l.drop (i + 1)) := spS_nn fun s hs => hb s (List.mem_of_mem_drop hs)
    rw [List.drop_eq_getElem_cons hlt] at ha ⊢
    simp only [spS] at ha
    have h4 := rv_l0 h l i hlt ⟨hs.2.1, hs.2.2⟩ (l[i].hi - l[i].lo + 1).toNat l[i].lo acc (by omega) hs.2.1 (by omega)
    have ih := rv_l1 h l hl hb d (i + 1) (acc ++ rng l[i].lo (l[i].hi - l[i].lo + 1).toNat) (by omega) (by rw [List.length_append, rng_len]; omega)
    simp only [Int.natCast_add, Int.cast_ofNat_Int] at ih
    rw [valS_cons, ← List.append_assoc, ← ih, r_ref03_Values_1]
    simp [b_ref03_Values_1, h2, h3, h4, hw]
theorem ref03_Values (l : List Sp) (hl : l.length ≤ 1000000) (hr : spR none l = true) (h : List Ob) : acw C n_ref03_Values [spsV l] h = some (.ret (.own h.length 0 (valS l).length (valS l).length), h ++ [.row 1 ((valS l).map (V.int .i64))]) := by
  have ht := spS_top hr
  have ih := rv_l1 h l hl (spR_all hr) l.length 0 [] (by omega) (by rw [List.drop_zero]; simp; omega)
  rw [List.drop_zero, List.nil_append] at ih
  simp only [List.length_nil, List.map_nil, Int.cast_ofNat_Int] at ih
  obtain ⟨R, hR⟩ : ∃ R, R = valS l := ⟨_, rfl⟩
  rw [← hR] at ih ⊢
  rw [acw_hm (CT T_ref03_Values) rfl]
  simp [runW_fin, F_ref03_Values, i_ref03_Values, ih]
def fewB (l : List Sp) : Bool := spR none l && decide (spN l ≤ 400)
theorem few (l : List Sp) (hl : l.length ≤ 1000000) (h : List Ob) : acw C n_law03_few [spsV l] h = some (.ret (.bool (fewB l)), h) := by
  have k1 := ref03_Right l (by omega)
  have k2 := ref03_Size l (by omega)
  refine acw_ex (v := .bool (fewB l)) (CT T_law03_few) rfl rfl (fun _ => rfl) (by simp) ?_
  unfold fewB
  cases e : spR none l with
  | false => rw [e] at k1; simp [runW_fin, F_law03_few, i_law03_few, k1]
  | true => rw [e] at k1; simp [runW_fin, F_law03_few, i_law03_few, k1, k2]
end Go.RR.M
set_option linter.unusedVariables false
set_option linter.unusedSimpArgs false
set_option maxRecDepth 100000
namespace Go.RR.M
open Go Go.RR
theorem valS_mem {v : Int} : ∀ {l : List Sp}, v ∈ valS l ↔ inS v l = true
  | [] => by simp [valS, inS]
  | s :: r => by
    rw [valS_cons, List.mem_append, mem_rng, valS_mem, inS_cons, Bool.or_eq_true]
    simp only [Bool.and_eq_true, decide_eq_true_eq]
    constructor
    · rintro (h | h)
      · left; omega
      · exact .inr h
    · rintro (h | h)
      · left; omega
      · exact .inr h
theorem rng_sorted : ∀ (n : Nat) (v : Int), (rng v n).Pairwise (· < ·)
  | 0, _ => .nil
  | n + 1, v => by
    refine List.pairwise_cons.2 ⟨fun x hx => ?_, rng_sorted n (v + 1)⟩
    have := mem_rng.1 hx
    omega
theorem inS_lo {q v : Int} {l : List Sp} (h : spR (some q) l = true) (hv : inS v l = true) : q + 1 < v := by
  unfold inS at hv
  obtain ⟨s, hs, h1⟩ := List.any_eq_true.1 hv
  have := spR_lo h s hs
  simp at h1
  omega
theorem valS_sorted : ∀ {l : List Sp} {p : Option Int}, spR p l = true → (valS l).Pairwise (· < ·)
  | [], _, _ => .nil
  | s :: r, p, h => by
    obtain ⟨h1, h2, h3, h4, h5⟩ := spR_cons h
    rw [valS_cons]
    refine List.pairwise_append.2 ⟨rng_sorted _ _, valS_sorted h5, fun x hx y hy => ?_⟩
    have h6 := mem_rng.1 hx
    have h7 := inS_lo h5 (valS_mem.1 hy)
    omega
/-- what is picked hangs on which numbers there are -/
theorem refS_set : ∀ (V s : List Int) (n m : Nat) (out : List Sp), s.length ≤ n → V.length ≤ m → s.Pairwise (· ≤ ·) → V.Pairwise (· < ·) → (∀ x, x ∈ s ↔ x ∈ V) → refS n s out = refS m V out
  | [], s, n, m, out, hn, hm, hs, hV, h => by
    have : s = [] := List.eq_nil_iff_forall_not_mem.2 fun x hx => by simpa using (h x).1 hx
    subst this
    cases n <;> cases m <;> rfl
  | x :: V, s, n, m, out, hn, hm, hs, hV, h => by
    cases s with
    | nil => have := (h x).2 (by simp); simp at this
    | cons y s =>
      have h1 := sorted_cons hs
      have h2 := List.pairwise_cons.1 hV
      have hyx : y = x := by
        have a := (h y).1 (by simp)
        have b := (h x).2 (by simp)
        rcases List.mem_cons.1 a with a | a
        · exact a
        · rcases List.mem_cons.1 b with b | b
          · exact b.symm
          · have := h2.1 y a
            have := h1.2 x b
            omega
      subst hyx
      cases n with
      | zero => simp at hn
      | succ n =>
        cases m with
        | zero => simp at hm
        | succ m =>
          simp only [refS]
          have e : V.filter (fun v => decide (y < v)) = V := List.filter_eq_self.2 fun v hv => by simpa using h2.1 v hv
          rw [e]
          refine refS_set V _ n m _ ?_ (by simpa using hm) (h1.1.filter _) h2.2 fun z => ?_
          · have := List.length_filter_le (fun v => decide (y < v)) s
            simp at hn; omega
          · rw [List.mem_filter]
            have hz := h z
            simp only [List.mem_cons] at hz
            constructor
            · rintro ⟨a, b⟩
              have b : y < z := by simpa using b
              rcases hz.1 (.inr a) with c | c
              · omega
              · exact c
            · intro a
              have := h2.1 z a
              rcases hz.2 (.inr a) with c | c
              · omega
              · exact ⟨c, by simpa using this⟩
theorem refS_fold : ∀ (V : List Int) (m : Nat) (out : List Sp), V.length ≤ m → V.Pairwise (· < ·) → refS m V out = V.foldl outR out
  | [], m, out, _, _ => by cases m <;> rfl
  | x :: V, m, out, hm, hV => by
    have h2 := List.pairwise_cons.1 hV
    cases m with
    | zero => simp at hm
    | succ m =>
      simp only [refS, List.foldl_cons]
      have e : V.filter (fun v => decide (x < v)) = V := List.filter_eq_self.2 fun v hv => by simpa using h2.1 v hv
      rw [e]
      exact refS_fold V m _ (by simpa using hm) h2.2
theorem fold_more (out : List Sp) (lo : Int) : ∀ (n : Nat) (h : Int), (rng (h + 1) n).foldl outR (out ++ [⟨lo, h⟩]) = out ++ [⟨lo, h + n⟩]
  | 0, h => by simp [rng]
  | n + 1, h => by
    simp only [rng, List.foldl_cons]
    rw [outR_end, if_pos rfl, fold_more out lo n (h + 1)]
    congr 3
    omega
theorem fold_one (out : List Sp) (s : Sp) (hs : s.lo ≤ s.hi) (hb : ∀ t, out.getLast? = some t → t.hi + 1 < s.lo) : (rng s.lo (s.hi - s.lo + 1).toNat).foldl outR out = out ++ [s] := by
  obtain ⟨n, hn⟩ : ∃ n : Nat, s.hi - s.lo = n := ⟨(s.hi - s.lo).toNat, by omega⟩
  have e : (s.hi - s.lo + 1).toNat = n + 1 := by omega
  rw [e]
  simp only [rng, List.foldl_cons]
  have h1 : outR out s.lo = out ++ [⟨s.lo, s.lo⟩] := by
    by_cases c : out = []
    · subst c; rfl
    · obtain ⟨pre, t, rfl⟩ : ∃ pre t, out = pre ++ [t] := ⟨out.dropLast, out.getLast c, (List.dropLast_concat_getLast c).symm⟩
      have := hb t (by simp)
      rw [outR_end, if_neg (by omega)]
  rw [h1, fold_more]
  have : s.lo + (n : Int) = s.hi := by omega
  rw [this]
theorem fold_all : ∀ (l out : List Sp) (p : Option Int), spR p l = true → (∀ t, out.getLast? = some t → p = some t.hi) → (valS l).foldl outR out = out ++ l
  | [], out, p, _, _ => by simp [valS]
  | s :: r, out, p, h, hp => by
    obtain ⟨h1, h2, h3, h4, h5⟩ := spR_cons h
    rw [valS_cons, List.foldl_append, fold_one out s h1 (fun t ht => h4 _ (hp t ht)), fold_all r (out ++ [s]) (some s.hi) h5 (fun t ht => by simp at ht; rw [← ht])]
    simp
/-- of a right list's numbers, in whichever order, comes that list again -/
theorem ofR_val {l : List Sp} {vs : List Int} (h : spR none l = true) (hv : ∀ x, x ∈ vs ↔ x ∈ valS l) : ofR vs = (l, 0) := by
  have hb := spR_all h
  have hok : ∀ v ∈ sortI vs, okI v = true := fun v hv' => by
    have h1 := (hv v).1 ((sortI_perm vs).mem_iff.1 hv')
    have h2 := valS_mem.1 h1
    unfold inS at h2
    obtain ⟨s, hs, h3⟩ := List.any_eq_true.1 h2
    have := hb s hs
    simp at h3
    simp [okI]; omega
  unfold ofR
  rw [ofL_refS vs.length (sortI vs) [] (by rw [sortI_length]; exact Nat.le_refl _) (sortI_sorted vs) hok (by simp)]
  simp only
  rw [refS_set (valS l) (sortI vs) vs.length (valS l).length [] (by rw [sortI_length]; exact Nat.le_refl _) (Nat.le_refl _) (sortI_sorted vs) (valS_sorted h) (fun x => by rw [(sortI_perm vs).mem_iff, hv]),
    refS_fold _ _ _ (Nat.le_refl _) (valS_sorted h), fold_all l [] none h (by simp)]
  simp
/-- each number stands at its place -/
theorem atS_val : ∀ {l : List Sp} (k : Nat) (h : k < (valS l).length), (∀ s ∈ l, s.lo ≤ s.hi ∧ -1048576 ≤ s.lo ∧ s.hi ≤ 1048576) → atS l k = ((valS l)[k], true)
  | [], k, h, _ => by simp [valS] at h
  | s :: r, k, h, hb => by
    have hs := hb s (by simp)
    have hb' : ∀ s ∈ r, s.lo ≤ s.hi ∧ -1048576 ≤ s.lo ∧ s.hi ≤ 1048576 := fun x hx => hb x (by simp [hx])
    have hl : (valS (s :: r)).length = (s.hi - s.lo + 1).toNat + (valS r).length := by rw [valS_cons, List.length_append, rng_len]
    unfold atS
    by_cases c : (k : Int) < s.hi - s.lo + 1
    · rw [if_pos c]
      have h1 : k < (rng s.lo (s.hi - s.lo + 1).toNat).length := by rw [rng_len]; omega
      congr 1
      simp only [valS_cons]
      rw [List.getElem_append_left h1, rng_get _ _ _ h1]
    · rw [if_neg c]
      have h1 : (rng s.lo (s.hi - s.lo + 1).toNat).length ≤ k := by rw [rng_len]; omega
      have h2 : k - (s.hi - s.lo + 1).toNat < (valS r).length := by omega
      have ih := atS_val (l := r) (k - (s.hi - s.lo + 1).toNat) h2 hb'
      rw [show (k : Int) - (s.hi - s.lo + 1) = ((k - (s.hi - s.lo + 1).toNat : Nat) : Int) by omega, ih]
      congr 1
      simp only [valS_cons]
      rw [List.getElem_append_right h1]
      congr 1
      rw [rng_len]
end Go.RR.M
set_option linter.unusedVariables false
set_option linter.unusedSimpArgs false
set_option maxRecDepth 100000
set_option maxHeartbeats 8000000
namespace Go.RR.M
open Go Go.RR
theorem at_val {l : List Sp} (hr : spR none l = true) (i : Nat) (h : i < (valS l).length) : atV l i = ((valS l)[i], true) ∧ plV l (valS l)[i] = i := by
  have hb := spR_all hr
  have hn : spN l = spS l := by simp [spN, hr]
  have hl := valS_len hb
  have e := atS_val i h hb
  obtain ⟨v, a1, a2, a3, -⟩ := atS_pl (k := (i : Int)) (n := 0) hr (by omega) (by omega)
  rw [e] at a1
  have hv : (valS l)[i] = v := by
    have := congrArg Prod.fst a1
    exact this
  refine ⟨by unfold atV; rw [if_neg (by omega), e], ?_⟩
  rw [hv, plV_ref, if_pos ⟨hr, a2⟩, a3]
  omega
theorem one_loop (l : List Sp) (hl : l.length ≤ 60) (hr : spR none l = true) (id : Nat) (h : List Ob) (hid : h[id]? = some (.row 1 ((valS l).map (V.int .i64)))) (hn : (valS l).length ≤ 1000000) : ∀ (d i : Nat), i + d = (valS l).length →
    evw C y0 i_law03_SpansOne_l0 [(0, spsV l), (61, .own id 0 (valS l).length (valS l).length), (62, iv (valS l).length), (63, iv i)] h =
      some (.ext 0, [(0, spsV l), (61, .own id 0 (valS l).length (valS l).length), (62, iv (valS l).length), (63, iv (valS l).length), (64, .bool false)], h)
  | 0, i, e => by
    obtain rfl : i = (valS l).length := by omega
    rw [r_law03_SpansOne_0]
    simp [b_law03_SpansOne_0]
  | d + 1, i, e => by
    have hlt : i < (valS l).length := by omega
    have h2 : (i : Int) < (valS l).length := by omega
    have h3 : (valS l)[i]? = some (valS l)[i] := by simp [hlt]
    have hw := wrap_succ (i := i) (n := (valS l).length) hlt (by omega)
    have ih := one_loop l hl hr id h hid hn d (i + 1) (by omega)
    simp only [Int.natCast_add, Int.cast_ofNat_Int] at ih
    obtain ⟨a1, a2⟩ := at_val hr i hlt
    have k1 := spans_At l (by omega) i
    have k2 := spans_Place l (by omega) (valS l)[i]
    rw [a1] at k1
    rw [a2] at k2
    rw [← ih, r_law03_SpansOne_0]
    simp [b_law03_SpansOne_0, h2, h3, hid, hlt, k1, k2, hw, ieq, ine]
end Go.RR.M
set_option linter.unusedVariables false
set_option linter.unusedSimpArgs false
set_option maxRecDepth 100000
set_option maxHeartbeats 8000000
namespace Go.RR.M
open Go Go.RR
theorem one (l : List Sp) (x : Int) (hx : 0 ≤ x ∧ x ≤ 65535) (h : List Ob) : acw C n_law03_SpansOne [spsV l, .int .u16 x] h = some (.ret (.bool true), h) := by
  refine acw_ex (v := .bool true) (CT T_law03_SpansOne) rfl rfl (fun _ => rfl) (by simp) ?_
  have k0 := awake
  by_cases c1 : (60 : Int) < l.length
  · simp [runW_fin, F_law03_SpansOne, i_law03_SpansOne, k0, c1]
  have kf := few l (by omega)
  cases ef : fewB l with
  | false =>
    rw [ef] at kf
    simp [runW_fin, F_law03_SpansOne, i_law03_SpansOne, k0, c1, kf]
  | true =>
    rw [ef] at kf
    have hr : spR none l = true := by unfold fewB at ef; simp at ef; exact ef.1
    have h4 : spN l ≤ 400 := by unfold fewB at ef; simp at ef; exact ef.2
    have hn : spN l = spS l := by simp [spN, hr]
    have hl := valS_len (spR_all hr)
    have kv := ref03_Values l (by omega) hr []
    simp only [List.length_nil, List.nil_append] at kv
    have ks := spans_Size l (by omega)
    have kq := ref03_Same l l (by omega)
    rw [hn, ← hl] at ks
    simp only [decide_true] at kq
    by_cases e : valS l = []
    · have e0 : ofR [] = (l, 0) := ofR_val hr (by simp [e])
      have ko : ∀ h, acw C n_spans_Of [.sl 1 []] h = some (.ret (.tup [spsV l, iv 0]), h) := fun h => by
        have := spans_Of [] (by simp) h
        rw [e0] at this
        exact this
      have kl := one_loop l (by omega) hr 0 [.row 1 [], .dead] (by simp [e]) (by simp [e]) 0 0 (by simp [e])
      simp [e] at kv ks kl
      have k6 : fzP [.row 1 [], .row 1 []] (.own 1 0 0 0) = some (.sl 1 [], [.row 1 [], .dead]) := rfl
      have k7 : ∀ nid, appV nid [.row 1 [], .row 1 []] 1 8 (.own 1 0 0 0) (.own 0 0 0 0) = some (.own 1 0 0 0, none) := fun nid => rfl
      simp [runW_fin, F_law03_SpansOne, i_law03_SpansOne, k0, c1, kf, kv, ks, kq, ko, k6, k7, kl, ieq, ine]
    · obtain ⟨Z, hZ⟩ : ∃ Z, Z = valS l := ⟨_, rfl⟩
      have kl := one_loop l (by omega) hr 0 [.row 1 (Z.map (V.int .i64)), .dead] (by simp [hZ]) (by omega) (valS l).length 0 (by omega)
      have ho : ∀ k : Nat, ofR (Z.drop k ++ Z) = (l, 0) := fun k => ofR_val hr (fun y => by rw [← hZ, List.mem_append]; exact ⟨fun h => h.elim List.mem_of_mem_drop _root_.id, .inr⟩)
      rw [← hZ] at kv ks kl hl e
      have hp : 0 < Z.length := List.length_pos_iff.2 e
      obtain ⟨k, hk⟩ : ∃ k, k = x.toNat % Z.length := ⟨_, rfl⟩
      have hkl : k < Z.length := by rw [hk]; exact Nat.mod_lt _ hp
      have hkt : x.tmod (Z.length : Int) = k := by
        obtain ⟨m, rfl⟩ := Int.eq_ofNat_of_zero_le hx.1
        rw [hk]
        simp [Int.tmod]
      have zl : (Z.map (V.int .i64)).length = Z.length := by simp
      have ne1 : (Z.map (V.int .i64)).drop k ≠ [] := by intro h; have := congrArg List.length h; simp at this; omega
      have ne2 : Z.map (V.int .i64) ≠ [] := by simpa using e
      have k7 : ∀ nid, appV nid [.row 1 (Z.map (V.int .i64)), .row 1 []] 1 8 (.own 1 0 0 0) (.own 0 k (Z.length - k) Z.length) = some (.own 1 0 (Z.length - k) (Z.length - k), some (1, .row 1 ((Z.map (V.int .i64)).drop k))) := fun nid => by
        have := appV_own (nid := nid) (h := [.row 1 (Z.map (V.int .i64)), .row 1 []]) (id := 1) (z := 1) (b := 8) (n := 0) (m := Z.length - k) (xs := []) (y := .own 0 k (Z.length - k) Z.length) (ys := (Z.map (V.int .i64)).drop k) rfl rfl (by
          simp only [src, elems, rowOf, List.getElem?_cons_zero, zl, if_true]
          rw [List.take_of_length_le (by simp)]) ne1 (by simp) (by omega) (by omega)
        simpa using this
      have k8 : ∀ nid, appV nid [.row 1 (Z.map (V.int .i64)), .row 1 ((Z.map (V.int .i64)).drop k)] 1 8 (.own 1 0 (Z.length - k) (Z.length - k)) (.own 0 0 Z.length Z.length) = some (.own 1 0 (Z.length - k + Z.length) (Z.length - k + Z.length), some (1, .row 1 ((Z.map (V.int .i64)).drop k ++ Z.map (V.int .i64)))) := fun nid => appV_own rfl (by simp) (by
          simp only [src, elems, rowOf, List.getElem?_cons_zero, zl, if_true, List.drop_zero]
          rw [List.take_of_length_le (by simp)]) ne2 (by simp) (by omega) (by omega)
      have k6 : fzP [.row 1 (Z.map (V.int .i64)), .row 1 ((Z.map (V.int .i64)).drop k ++ Z.map (V.int .i64))] (.own 1 0 (Z.length - k + Z.length) (Z.length - k + Z.length)) = some (.sl 1 ((Z.map (V.int .i64)).drop k ++ Z.map (V.int .i64)), [.row 1 (Z.map (V.int .i64)), .dead]) := fzP_own rfl (by simp) (dataL_all fun y hy => by
        rcases List.mem_append.1 hy with hy | hy
        · obtain ⟨d, -, rfl⟩ := List.mem_map.1 (List.mem_of_mem_drop hy); rfl
        · obtain ⟨d, -, rfl⟩ := List.mem_map.1 hy; rfl)
      have ko : ∀ h, acw C n_spans_Of [.sl 1 ((Z.map (V.int .i64)).drop k ++ Z.map (V.int .i64))] h = some (.ret (.tup [spsV l, iv 0]), h) := fun h => by
        have := spans_Of (Z.drop k ++ Z) (by simp; omega) h
        rw [ho k] at this
        have e9 : intsV (Z.drop k ++ Z) = .sl 1 ((Z.map (V.int .i64)).drop k ++ Z.map (V.int .i64)) := by simp [List.map_drop]
        rw [e9] at this
        exact this
      have hp' : (0 : Int) < Z.length := by omega
      have hk0 : (k : Int) ≤ Z.length := by omega
      have hk1 : k ≤ Z.length := by omega
      have hne : ¬ (Z.length : Int) = 0 := by omega
      have hwx : IntKind.i64.wrap x = x := wrap64 (by omega) (by omega)
      simp only [← hZ, Int.cast_ofNat_Int] at kl
      simp [runW_fin, F_law03_SpansOne, i_law03_SpansOne, k0, c1, kf, kv, ks, kq, ko, k6, k7, k8, kl, ieq, ine, hp, hp', hwx, hkt, hk0, hk1, hne, e]
end Go.RR.M
set_option linter.unusedVariables false
set_option linter.unusedSimpArgs false
set_option maxRecDepth 100000
set_option maxHeartbeats 4000000
namespace Go.RR.M
open Go Go.RR
/-- a span put behind others, above a place -/
theorem put2 (B : Nat) (l : List Sp) (s : Sp) (v : V) (h : List Ob) (hB : B ≤ h.length) (hl : l.length ≤ 1000000) (hb : ∀ t ∈ l, -1099511627776 ≤ t.hi ∧ t.hi ≤ 1099511627776) (a : AccB B h v 2 (l.map spV)) :
    ∃ v' h', acw C n_spans_put [v, spV s] h = some (.ret v', h') ∧ AccB B h' v' 2 ((putS l s).map spV) ∧ (∀ j, j < B → h'[j]? = h[j]?) ∧ B ≤ h'.length := by
  rcases a with ⟨rfl, e0⟩ | ⟨id, h1, rfl, e⟩
  · obtain rfl : l = [] := by simpa using e0
    refine ⟨_, _, put_nil s h, .own (by omega) rfl (by simp [putS_nil]), fun j hj => get_lt (by omega), by simp; omega⟩
  · by_cases hne : l = []
    · subst hne
      have hid := (List.getElem?_eq_some_iff.1 e).1
      have hp : acw C n_spans_put [.own id 0 0 0, spV s] h = some (.ret (.own id 0 1 1), (h ++ [Ob.row 2 [spV s]]).set id (.row 2 [spV s])) := by
        rw [acw_hm (CT T_spans_put) rfl]
        have e' : (h ++ [Ob.row 2 [spV s]])[id]? = some (.row 2 []) := get_some e
        have k4 : bsfL (.agg [.int .i64 0, .int .i64 0]) [spV s] = some (.sl 2 [spV s]) := rfl
        have k5 : ∀ nid, appV nid (h ++ [.row 2 [spV s]]) 2 16 (.own id 0 0 0) (.sl 2 [spV s]) = some (.own id 0 1 1, some (id, .row 2 [spV s])) := fun nid => (by have := appV_own (nid := nid) (b := 16) e' (m := 1) (n := 0) (by simp) (y := .sl 2 [spV s]) rfl (by simp) (by simp) (by omega) (by omega); simpa using this)
        have k6 := wr_lt (h := h ++ [Ob.row 2 [spV s]]) (i := id) (o := .row 2 [spV s]) (by simp; omega)
        simp only [spV] at e' k4 k5 k6 ⊢
        simp [runW_fin, F_spans_put, i_spans_put, e', k4, k5, k6]
      refine ⟨_, _, hp, .own h1 (by simp [putS_nil]) ?_, fun j hj => ?_, ?_⟩
      · rw [List.getElem?_set_self (by simp; omega)]; simp [putS_nil]
      · rw [List.getElem?_set_ne (by omega), get_lt (by omega)]
      · simp; omega
    · obtain ⟨pre, t, rfl⟩ : ∃ pre t, l = pre ++ [t] := ⟨l.dropLast, l.getLast hne, (List.dropLast_concat_getLast hne).symm⟩
      have hid := (List.getElem?_eq_some_iff.1 e).1
      obtain ⟨m, h', k1, rfl, k3, k4⟩ := put_own pre t s id ((pre ++ [t]).map spV).length h (by simp) (by simp at hl; omega) (by simpa using e) (hb t (by simp))
      refine ⟨_, _, k1, .own h1 (by simp) k3, fun j hj => k4 j (by omega) (by omega), ?_⟩
      have := (List.getElem?_eq_some_iff.1 k3).1
      omega
abbrev ccX (a b : List Sp) : V := .sl 1 [spsV a, spsV b]
theorem cc_l0 (a b : List Sp) (ha : a.length ≤ 1000) (hb : b.length ≤ 1000) (h : List Ob) : evw C y0 i_slices_Concat_sapi_Span_api_Span_l0 [(0, ccX a b), (3, iv 0), (9, ccX a b), (10, iv 2), (11, iv 0)] h = some (.ext 0, [(0, ccX a b), (3, iv (a.length + b.length)), (9, ccX a b), (10, iv 2), (11, iv 2), (12, .bool false)], h) := by
  have h1 : IntKind.i64.wrap (a.length : Int) = a.length := wrap64 (by omega) (by omega)
  have h2 : IntKind.i64.wrap ((a.length : Int) + b.length) = a.length + b.length := wrap64 (by omega) (by omega)
  have h3 : ¬ ((a.length : Int) + b.length < 0) := by omega
  have h4 : ¬ ((a.length : Int) < 0) := by omega
  rw [r_slices_Concat_sapi_Span_api_Span_0]
  simp [b_slices_Concat_sapi_Span_api_Span_0, h1, h4]
  rw [r_slices_Concat_sapi_Span_api_Span_0]
  simp [b_slices_Concat_sapi_Span_api_Span_0, h2, h3]
  rw [r_slices_Concat_sapi_Span_api_Span_0]
  simp [b_slices_Concat_sapi_Span_api_Span_0]
theorem cc_l1 (a b : List Sp) (ha : a.length ≤ 1000) (hb : b.length ≤ 1000) (v : V) (h : List Ob) (hA : AccB 0 h v 2 []) : ∃ v' h', evw C y0 i_slices_Concat_sapi_Span_api_Span_l1 [(6, v), (25, ccX a b), (26, iv 2), (27, iv 0)] h = some (.ext 2, [(6, v'), (25, ccX a b), (26, iv 2), (27, iv 2), (28, .bool false)], h') ∧ AccB 0 h' v' 2 ((a ++ b).map spV) := by
  obtain ⟨v1, w1, e1, e2, -⟩ := hA.app (b := 16) (y := spsV a) (ys := a.map spV) (Nat.zero_le _) rfl (by simp only [List.length_nil, List.length_map]; omega) (by simp only [List.length_nil, List.length_map]; omega)
  rw [List.nil_append] at e2
  obtain ⟨v2, w2, f1, f2, -⟩ := e2.app (b := 16) (y := spsV b) (ys := b.map spV) (Nat.zero_le _) rfl (by simp only [List.length_map]; omega) (by simp only [List.length_map]; omega)
  refine ⟨v2, wr (wr h w1) w2, ?_, by rw [List.map_append]; exact f2⟩
  rw [r_slices_Concat_sapi_Span_api_Span_1]
  simp [b_slices_Concat_sapi_Span_api_Span_1, e1]
  rw [r_slices_Concat_sapi_Span_api_Span_1]
  simp [b_slices_Concat_sapi_Span_api_Span_1, f1]
  rw [r_slices_Concat_sapi_Span_api_Span_1]
  simp [b_slices_Concat_sapi_Span_api_Span_1]
theorem growE (a : List V) (h : List Ob) : C.H n_slices_Grow_sapi_Span_api_Span a h = growH 2 a h := by simp [C, H, n_slices_Grow_sapi_Span_api_Span, n_slices_Sort_sint_int, n_slices_Compact_sint_int]
theorem concat (a b : List Sp) (ha : a.length ≤ 1000) (hb : b.length ≤ 1000) (h : List Ob) : acw C n_slices_Concat_sapi_Span_api_Span [ccX a b] h = some (.ret (spsV (a ++ b)), h) := by
  have h0 := cc_l0 a b ha hb []
  have hg : ∃ v h', acw C n_slices_Grow_sapi_Span_api_Span [.nsl 2, iv (a.length + b.length)] [] = some (.ret v, h') ∧ AccB 0 h' v 2 [] := by
    by_cases e : (a.length : Int) + b.length = 0
    · refine ⟨.nsl 2, [], acw_H rfl ?_, .nil⟩
      rw [growE]
      simp only [growH]
      have hc : True ∧ 0 ≤ (a.length : Int) + b.length ∧ (a.length : Int) + b.length ≤ 1000000 := ⟨trivial, by omega, by omega⟩
      rw [if_pos hc, if_pos e]
    · refine ⟨.own 0 0 0 0, [.row 2 []], acw_H rfl ?_, .own (Nat.le_refl _) rfl rfl⟩
      rw [growE]
      simp only [growH]
      have hc : True ∧ 0 ≤ (a.length : Int) + b.length ∧ (a.length : Int) + b.length ≤ 1000000 := ⟨trivial, by omega, by omega⟩
      rw [if_pos hc, if_neg e]
      rfl
  obtain ⟨v, h1, hg, hA⟩ := hg
  obtain ⟨v', h2, k1, k2⟩ := cc_l1 a b ha hb v h1 hA
  have hf : RR.frz h2 fdepth v' = some (spsV (a ++ b)) := k2.frz 11 (mapO_id fun x hx => by obtain ⟨s, -, rfl⟩ := List.mem_map.1 hx; exact spV_fz s h2 7)
  refine acw_pure (a2 := [ccX a b]) (h' := h2) (v := v') (CT T_slices_Concat_sapi_Span_api_Span) rfl rfl ?_ hf (by simp)
  simp [runW_fin, F_slices_Concat_sapi_Span_api_Span, i_slices_Concat_sapi_Span_api_Span, h0, hg, k1]
def endsS (c : List Sp) : List Int := c.flatMap fun s => [s.lo, s.hi + 1]
theorem pt_l0 (a b K : V) (c : List Sp) (hc : c.length ≤ 1000) (hb : ∀ s ∈ c, s.lo ≤ s.hi ∧ -1048576 ≤ s.lo ∧ s.hi ≤ 1048576) : ∀ (k i : Nat) (v : V) (acc : List Int) (h : List Ob), i + k = c.length → acc.length ≤ 2 * i → AccB 0 h v 1 (acc.map (V.int .i64)) →
    ∃ v' h', evw C y0 i_spans_parts_l0 [(0, a), (1, b), (2, K), (7, v), (24, spsV c), (25, iv c.length), (26, iv i)] h = some (.ext 0, [(0, a), (1, b), (2, K), (7, v'), (24, spsV c), (25, iv c.length), (26, iv c.length), (27, .bool false)], h') ∧ AccB 0 h' v' 1 ((acc ++ endsS (c.drop i)).map (V.int .i64))
  | 0, i, v, acc, h, hi, ha, hA => by
    obtain rfl : i = c.length := by omega
    rw [List.drop_length, r_spans_parts_0]
    refine ⟨v, h, ?_, by simpa [endsS] using hA⟩
    simp [b_spans_parts_0]
  | k + 1, i, v, acc, h, hi, ha, hA => by
    have hlt : i < c.length := by omega
    have h2 : (i : Int) < c.length := by omega
    have h3 : c[i]? = some c[i] := by simp [hlt]
    have hw := wrap_succ (i := i) (n := c.length) hlt (by omega)
    have hs := hb c[i] (List.getElem_mem hlt)
    have hw2 : IntKind.i64.wrap (c[i].hi + 1) = c[i].hi + 1 := wrap64 (by omega) (by omega)
    obtain ⟨v1, w, e1, e2, -⟩ := (hA.more (l := [.row 2 [spV c[i]]])).app (b := 8) (y := .sl 1 [iv c[i].lo, iv (c[i].hi + 1)]) (ys := [iv c[i].lo, iv (c[i].hi + 1)]) (Nat.zero_le _) rfl (by simp only [List.length_cons, List.length_nil, List.length_map]; omega) (by simp only [List.length_cons, List.length_nil, List.length_map]; omega)
    have e2' : AccB 0 (wr (h ++ [.row 2 [spV c[i]]]) w) v1 1 ((acc ++ [c[i].lo, c[i].hi + 1]).map (V.int .i64)) := by simpa using e2
    obtain ⟨v', h', ih1, ih2⟩ := pt_l0 a b K c hc hb k (i + 1) v1 (acc ++ [c[i].lo, c[i].hi + 1]) _ (by omega) (by simp; omega) e2'
    have k4 : bsfL (.int .i64 0) [iv c[i].lo, iv (c[i].hi + 1)] = some (.sl 1 [iv c[i].lo, iv (c[i].hi + 1)]) := rfl
    simp only [Int.natCast_add, Int.cast_ofNat_Int] at ih1
    simp only [List.length_append, List.length_singleton, spV] at e1 ih1
    refine ⟨v', h', ?_, ?_⟩
    · rw [r_spans_parts_0, ← ih1]
      simp [b_spans_parts_0, h2, h3, hw2, k4, e1, hw]
    · rw [List.drop_eq_getElem_cons hlt]
      rw [List.append_assoc] at ih2
      exact ih2
end Go.RR.M
set_option linter.unusedVariables false
set_option linter.unusedSimpArgs false
set_option maxRecDepth 100000
set_option maxHeartbeats 4000000
namespace Go.RR.M
open Go Go.RR
theorem comp_upto (d : Array Int) (hd : ∀ i j, i ≤ j → j < d.size → d[i]! ≤ d[j]!) : ∀ m, m ≤ d.size → (Lib.compactUpTo d m).Pairwise (· < ·) ∧ ∀ x, x ∈ Lib.compactUpTo d m ↔ ∃ j, j < m ∧ d[j]! = x
  | 0, _ => ⟨by simp [Lib.compactUpTo], fun x => by simp [Lib.compactUpTo]⟩
  | m + 1, hm => by
    obtain ⟨h1, h2⟩ := comp_upto d hd m (by omega)
    rw [Lib.compactUpTo_succ]
    cases hk : Lib.keeps d m with
    | false =>
      have hk' : ¬ (m = 0 ∨ d[m]! ≠ d[m - 1]!) := by simpa [Lib.keeps] using hk
      have h0 : 0 < m := by omega
      have he : d[m]! = d[m - 1]! := by
        by_cases h : d[m]! = d[m - 1]!
        · exact h
        · exact absurd (.inr h) hk'
      simp only [Bool.false_eq_true, if_false, List.append_nil]
      refine ⟨h1, fun x => ?_⟩
      rw [h2]
      constructor
      · rintro ⟨j, hj, e⟩; exact ⟨j, by omega, e⟩
      · rintro ⟨j, hj, e⟩
        by_cases c : j = m
        · subst c; exact ⟨j - 1, by omega, by rw [← he]; exact e⟩
        · exact ⟨j, by omega, e⟩
    | true =>
      have hk' : m = 0 ∨ d[m]! ≠ d[m - 1]! := by simpa [Lib.keeps] using hk
      simp only [if_true]
      refine ⟨List.pairwise_append.2 ⟨h1, by simp, fun x hx y hy => ?_⟩, fun x => ?_⟩
      · obtain ⟨j, hj, rfl⟩ := (h2 x).1 hx
        simp only [List.mem_singleton] at hy
        subst hy
        have a := hd j (m - 1) (by omega) (by omega)
        have b := hd (m - 1) m (by omega) (by omega)
        rcases hk' with h | h <;> omega
      · rw [List.mem_append, h2]
        simp only [List.mem_singleton]
        constructor
        · rintro (⟨j, hj, e⟩ | e)
          · exact ⟨j, by omega, e⟩
          · exact ⟨m, by omega, e.symm⟩
        · rintro ⟨j, hj, e⟩
          by_cases c : j = m
          · subst c; exact .inr e.symm
          · exact .inl ⟨j, by omega, e⟩
theorem comp_sort (l : List Int) : (Lib.compact (sortI l)).Pairwise (· < ·) ∧ ∀ x, x ∈ Lib.compact (sortI l) ↔ x ∈ l := by
  have hs := List.pairwise_iff_getElem.1 (sortI_sorted l)
  have hd : ∀ i j, i ≤ j → j < (sortI l).toArray.size → (sortI l).toArray[i]! ≤ (sortI l).toArray[j]! := fun i j hij hj => by
    have hj' : j < (sortI l).length := by simpa using hj
    have hi' : i < (sortI l).length := by omega
    rw [getElem!_pos _ i (by simpa using hi'), getElem!_pos _ j hj]
    simp only [List.getElem_toArray]
    by_cases c : i = j
    · subst c; omega
    · exact hs i j hi' hj' (by omega)
  obtain ⟨h1, h2⟩ := comp_upto _ hd (sortI l).length (by simp)
  refine ⟨h1, fun x => (h2 x).trans ?_⟩
  rw [← (sortI_perm l).mem_iff, List.mem_iff_getElem]
  constructor
  · rintro ⟨j, hj, e⟩
    rw [getElem!_pos _ j (by simpa using hj)] at e
    exact ⟨j, hj, e⟩
  · rintro ⟨j, hj, e⟩
    refine ⟨j, hj, ?_⟩
    rw [getElem!_pos _ j (by simpa using hj)]
    exact e
theorem comp_len (l : List Int) : (Lib.compact (sortI l)).length ≤ l.length := by
  have h := List.length_filter_le (Lib.keeps (sortI l).toArray) (List.range (sortI l).length)
  unfold Lib.compact Lib.compactUpTo
  rw [List.length_map]
  rw [List.length_range, sortI_length] at h
  rw [sortI_length] at *
  exact h
theorem pt_l1 (a b : List Sp) (f : Nat) (g : Bool → Bool → Bool) (hf : ∀ x y h, acw C f [.bool x, .bool y] h = some (.ret (.bool (g x y)), h))
    (E : List Int) (R : List V) (id : Nat) (hR : ∀ i (hi : i < E.length), R[i]? = some (iv E[i])) (hE : ∀ x ∈ E, -1048576 ≤ x ∧ x ≤ 1048577) (hn : E.length ≤ 100000)
    (hA : ∀ v h, acw C n_spans_Has [spsV a, iv v] h = some (.ret (.bool (inS v a)), h)) (hB : ∀ v h, acw C n_spans_Has [spsV b, iv v] h = some (.ret (.bool (inS v b)), h)) :
    ∀ (d i : Nat) (v : V) (acc : List Sp) (h : List Ob), i + d = E.length → acc.length ≤ i → (∀ t ∈ acc, -1048577 ≤ t.hi ∧ t.hi ≤ 1048577) → id < h.length → h[id]? = some (.row 1 R) → AccB (id + 1) h v 2 (acc.map spV) →
    ∃ v' h', evw C y0 i_spans_parts_l1 [(0, spsV a), (1, spsV b), (2, .fn (.func f) [] []), (7, .own id 0 E.length R.length), (10, v), (43, .own id 0 E.length R.length), (44, iv E.length), (45, iv i)] h =
      some (.ext 2, [(0, spsV a), (1, spsV b), (2, .fn (.func f) [] []), (7, .own id 0 E.length R.length), (10, v'), (43, .own id 0 E.length R.length), (44, iv E.length), (45, iv E.length), (46, .bool false)], h') ∧ AccB 0 h' v' 2 ((segs (fun v => g (inS v a) (inS v b)) (E.drop i) acc).map spV)
  | 0, i, v, acc, h, hi, ha, hb, hid, hr, hacc => by
    obtain rfl : i = E.length := by omega
    rw [List.drop_length, r_spans_parts_1]
    refine ⟨v, h, ?_, by unfold segs; exact hacc.mono (Nat.zero_le _)⟩
    simp [b_spans_parts_1]
  | d + 1, i, v, acc, h, hi, ha, hb, hid, hr, hacc => by
    have hlt : i < E.length := by omega
    have h2 : (i : Int) < E.length := by omega
    have h3 := hR i hlt
    have hw := wrap_succ (i := i) (n := E.length) hlt (by omega)
    by_cases c : i + 1 < E.length
    · have c' : (i : Int) + 1 < E.length := by omega
      have h4 := hR (i + 1) c
      have hx := hE E[i + 1] (List.getElem_mem c)
      have hx0 := hE E[i] (List.getElem_mem hlt)
      have hw2 : IntKind.i64.wrap (E[i + 1] - 1) = E[i + 1] - 1 := wrap64 (by omega) (by omega)
      have hsub : ((i : Int) + 1).toNat = i + 1 := by omega
      have hnn : (0 : Int) ≤ (i : Int) + 1 := by omega
      have hs : segs (fun v => g (inS v a) (inS v b)) (E.drop i) acc = segs (fun v => g (inS v a) (inS v b)) (E.drop (i + 1)) (if g (inS E[i] a) (inS E[i] b) = true then putS acc ⟨E[i], E[i + 1] - 1⟩ else acc) := by
        rw [List.drop_eq_getElem_cons hlt, List.drop_eq_getElem_cons c]
        rfl
      rw [hs]
      cases hk : g (inS E[i] a) (inS E[i] b) with
      | true =>
        obtain ⟨v1, h1, k1, k2, k3, k4⟩ := put2 (id + 1) acc ⟨E[i], E[i + 1] - 1⟩ v h (by omega) (by omega) (fun t ht => by have := hb t ht; omega) hacc
        obtain ⟨v', h', ih1, ih2⟩ := pt_l1 a b f g hf E R id hR hE hn hA hB d (i + 1) v1 (putS acc ⟨E[i], E[i + 1] - 1⟩) h1 (by omega) (by have := putS_len acc ⟨E[i], E[i + 1] - 1⟩; omega) (putS_hi (b := 1048577) hb (by simp; omega)) (by omega) (by rw [k3 id (by omega)]; exact hr) k2
        refine ⟨v', h', ?_, ih2⟩
        simp only [Int.natCast_add, Int.cast_ofNat_Int] at ih1
        simp only [spV] at k1
        rw [r_spans_parts_1, ← ih1]
        simp [b_spans_parts_1, h2, h3, h4, hr, hw, hw2, c', hsub, hnn, hA, hB, hf, hk, k1]
      | false =>
        obtain ⟨v', h', ih1, ih2⟩ := pt_l1 a b f g hf E R id hR hE hn hA hB d (i + 1) v acc h (by omega) (by omega) hb hid hr hacc
        refine ⟨v', h', ?_, ih2⟩
        simp only [Int.natCast_add, Int.cast_ofNat_Int] at ih1
        rw [r_spans_parts_1, ← ih1]
        simp [b_spans_parts_1, h2, h3, h4, hr, hw, hw2, c', hsub, hnn, hA, hB, hf, hk]
    · have c' : ¬ (i : Int) + 1 < E.length := by omega
      obtain rfl : d = 0 := by omega
      obtain ⟨v', h', ih1, ih2⟩ := pt_l1 a b f g hf E R id hR hE hn hA hB 0 (i + 1) v acc h (by omega) (by omega) hb hid hr hacc
      have hs : segs (fun v => g (inS v a) (inS v b)) (E.drop i) acc = segs (fun v => g (inS v a) (inS v b)) (E.drop (i + 1)) acc := by
        rw [List.drop_eq_getElem_cons hlt, show E.drop (i + 1) = [] from List.drop_eq_nil_of_le (by omega)]
        rfl
      rw [hs]
      refine ⟨v', h', ?_, ih2⟩
      simp only [Int.natCast_add, Int.cast_ofNat_Int] at ih1
      rw [r_spans_parts_1, ← ih1]
      simp [b_spans_parts_1, h2, h3, hr, hw, c']
def partS (g : Bool → Bool → Bool) (a b : List Sp) : List Sp := if spR none a = true ∧ spR none b = true then segs (fun v => g (inS v a) (inS v b)) (Lib.compact (sortI (endsS (a ++ b)))) [] else []
theorem endsS_len : ∀ (c : List Sp), (endsS c).length = 2 * c.length
  | [] => rfl
  | s :: r => by
    have := endsS_len r
    simp only [endsS, List.flatMap_cons, List.length_append, List.length_cons, List.length_nil] at this ⊢
    omega
theorem endsS_bd {c : List Sp} (hb : ∀ s ∈ c, s.lo ≤ s.hi ∧ -1048576 ≤ s.lo ∧ s.hi ≤ 1048576) : ∀ x ∈ endsS c, -1048576 ≤ x ∧ x ≤ 1048577 := by
  intro x hx
  unfold endsS at hx
  obtain ⟨s, hs, h⟩ := List.mem_flatMap.1 hx
  have := hb s hs
  simp at h
  omega
theorem sortE (a : List V) (h : List Ob) : C.H n_slices_Sort_sint_int a h = sortH a h := by simp [C, H, n_slices_Sort_sint_int]
theorem compE (a : List V) (h : List Ob) : C.H n_slices_Compact_sint_int a h = compH a h := by simp [C, H, n_slices_Sort_sint_int, n_slices_Compact_sint_int]
theorem parts (a b : List Sp) (f : Nat) (g : Bool → Bool → Bool) (hf : ∀ x y h, acw C f [.bool x, .bool y] h = some (.ret (.bool (g x y)), h)) (ha : a.length ≤ 400) (hb : b.length ≤ 400) (h : List Ob) :
    acw C n_spans_parts [spsV a, spsV b, .fn (.func f) [] []] h = some (.ret (spsV (partS g a b)), h) := by
  have k1 := spans_Right a (by omega)
  have k2 := spans_Right b (by omega)
  have kc := concat a b (by omega) (by omega)
  simp only [ccX] at kc
  unfold partS
  cases ea : spR none a with
  | false =>
    rw [ea] at k1
    refine acw_pure (a2 := [spsV a, spsV b, .fn (.func f) [] []]) (h' := []) (v := .nsl 2) (CT T_spans_parts) rfl rfl ?_ rfl (by simp)
    simp [runW_fin, F_spans_parts, i_spans_parts, k1]
  | true =>
    rw [ea] at k1
    cases eb : spR none b with
    | false =>
      rw [eb] at k2
      refine acw_pure (a2 := [spsV a, spsV b, .fn (.func f) [] []]) (h' := []) (v := .nsl 2) (CT T_spans_parts) rfl rfl ?_ rfl (by simp)
      simp [runW_fin, F_spans_parts, i_spans_parts, k1, k2]
    | true =>
      rw [eb] at k2
      rw [if_pos ⟨rfl, rfl⟩]
      have hbd : ∀ s ∈ a ++ b, s.lo ≤ s.hi ∧ -1048576 ≤ s.lo ∧ s.hi ≤ 1048576 := fun s hs => (List.mem_append.1 hs).elim (spR_all ea s) (spR_all eb s)
      have hA : ∀ v h, acw C n_spans_Has [spsV a, iv v] h = some (.ret (.bool (inS v a)), h) := fun v h => by
        rw [spans_Has a (by omega), has_eq, ea, Bool.true_and]
      have hB : ∀ v h, acw C n_spans_Has [spsV b, iv v] h = some (.ret (.bool (inS v b)), h) := fun v h => by
        rw [spans_Has b (by omega), has_eq, eb, Bool.true_and]
      by_cases e : a ++ b = []
      · have e1 : a = [] := (List.append_eq_nil_iff.1 e).1
        have e2 : b = [] := (List.append_eq_nil_iff.1 e).2
        subst e1 e2
        have hs : ∀ h, acw C n_slices_Sort_sint_int [.nsl 1] h = some (.ret (.tup []), h) := fun h => acw_H rfl rfl
        have hc : ∀ h, acw C n_slices_Compact_sint_int [.nsl 1] h = some (.ret (.nsl 1), h) := fun h => acw_H rfl rfl
        have l0 : ∀ h K, evw C y0 i_spans_parts_l0 [(0, spsV []), (1, spsV []), (2, K), (7, .nsl 1), (24, spsV []), (25, iv 0), (26, iv 0)] h = some (.ext 0, [(0, spsV []), (1, spsV []), (2, K), (7, .nsl 1), (24, spsV []), (25, iv 0), (26, iv 0), (27, .bool false)], h) := fun h K => by
          rw [r_spans_parts_0]
          simp [b_spans_parts_0]
        have l1 : ∀ h K, evw C y0 i_spans_parts_l1 [(0, spsV []), (1, spsV []), (2, K), (7, .nsl 1), (10, .nsl 2), (43, .nsl 1), (44, iv 0), (45, iv 0)] h = some (.ext 2, [(0, spsV []), (1, spsV []), (2, K), (7, .nsl 1), (10, .nsl 2), (43, .nsl 1), (44, iv 0), (45, iv 0), (46, .bool false)], h) := fun h K => by
          rw [r_spans_parts_1]
          simp [b_spans_parts_1]
        have k4 : bsfL (.nsl 2) [spsV [], spsV []] = some (.sl 1 [spsV [], spsV []]) := rfl
        refine acw_pure (a2 := [spsV [], spsV [], .fn (.func f) [] []]) (h' := []) (v := .nsl 2) (CT T_spans_parts) rfl rfl ?_ rfl (by simp)
        simp only [List.append_nil] at kc
        simp [runW_fin, F_spans_parts, i_spans_parts, k1, kc, hs, hc, l0, l1, k4]
      · obtain ⟨v0, h0, l0, hA0⟩ := pt_l0 (spsV a) (spsV b) (.fn (.func f) [] []) (a ++ b) (by simp; omega) hbd (a ++ b).length 0 (.nsl 1) [] [] (by omega) (by simp) .nil
        rw [List.drop_zero, List.nil_append] at hA0
        have hel := endsS_len (a ++ b)
        have hne : 0 < (a ++ b).length := List.length_pos_iff.2 e
        rcases hA0 with ⟨-, h9⟩ | ⟨id, -, rfl, hid⟩
        · have := congrArg List.length h9; rw [List.length_map, hel] at this; simp only [List.length_nil] at this; omega
        obtain ⟨L, hL⟩ : ∃ L, L = endsS (a ++ b) := ⟨_, rfl⟩
        have hE := endsS_bd hbd
        rw [← hL] at l0 hid hel hE ⊢
        have hil := (List.getElem?_eq_some_iff.1 hid).1
        have hLl : L.length ≤ 100000 := by simp at hel; omega
        obtain ⟨E, hEe⟩ : ∃ E, E = Lib.compact (sortI L) := ⟨_, rfl⟩
        have hEl := comp_len L
        have hEm := (comp_sort L).2
        obtain ⟨R, hRe⟩ : ∃ R, R = (E ++ List.replicate ((sortI L).length - E.length) 0).map (V.int .i64) := ⟨_, rfl⟩
        rw [← hEe] at hEl hEm ⊢
        have hRl : R.length = L.length := by rw [hRe, List.length_map, List.length_append, List.length_replicate, sortI_length]; omega
        have hs : acw C n_slices_Sort_sint_int [.own id 0 L.length L.length] h0 = some (.ret (.tup []), h0.set id (.row 1 ((sortI L).map (V.int .i64)))) := acw_H rfl (by
          rw [sortE]
          simp only [sortH, hid, List.length_map]
          rw [if_pos ⟨trivial, trivial, by simp, by omega⟩, ints_map])
        have hid1 : (h0.set id (.row 1 ((sortI L).map (V.int .i64))))[id]? = some (.row 1 ((sortI L).map (V.int .i64))) := List.getElem?_set_self hil
        have hc : acw C n_slices_Compact_sint_int [.own id 0 L.length L.length] (h0.set id (.row 1 ((sortI L).map (V.int .i64)))) = some (.ret (.own id 0 E.length L.length), (h0.set id (.row 1 ((sortI L).map (V.int .i64)))).set id (.row 1 R)) := acw_H rfl (by
          rw [compE]
          simp only [compH, hid1, List.length_map]
          rw [if_pos ⟨trivial, trivial, by rw [sortI_length], by simp at hel hne; omega, by omega⟩, ints_map]
          simp only [← hEe, ← hRe])
        obtain ⟨v1, h1, l1, hA1⟩ := pt_l1 a b f g hf E R id (fun i hi => by rw [hRe, List.getElem?_map, List.getElem?_append_left hi]; simp [hi]) (fun x hx => hE x ((hEm x).1 hx)) (by omega) hA hB E.length 0 (.nsl 2) [] ((h0.set id (.row 1 ((sortI L).map (V.int .i64)))).set id (.row 1 R)) (by omega) (Nat.le_refl _) (by simp) (by simpa using hil) (by rw [List.getElem?_set_self (by simpa using hil)]) .nil
        rw [List.drop_zero] at hA1
        rw [hRl] at l1
        have hf2 : RR.frz h1 fdepth v1 = some (spsV (segs (fun v => g (inS v a) (inS v b)) E [])) := hA1.frz 11 (mapO_id fun x hx => by obtain ⟨s, -, rfl⟩ := List.mem_map.1 hx; exact spV_fz s h1 7)
        have k4 : bsfL (.nsl 2) [spsV a, spsV b] = some (.sl 1 [spsV a, spsV b]) := rfl
        have hlc : (L.map (V.int .i64)).length = L.length := by simp
        rw [hlc] at l0
        have hid2 : ((h0.set id (.row 1 ((sortI L).map (V.int .i64)))).set id (.row 1 R))[id]? = some (.row 1 R) := by rw [List.getElem?_set_self (by simpa using hil)]
        refine acw_pure (a2 := [spsV a, spsV b, .fn (.func f) [] []]) (h' := h1) (v := v1) (CT T_spans_parts) rfl rfl ?_ hf2 (by simp)
        simp only [List.length_append, Int.natCast_add, Int.cast_ofNat_Int, spsV, List.map_append] at l0 l1 kc hs hc
        rw [List.set_set] at hc hid2 l1
        simp [runW_fin, F_spans_parts, i_spans_parts, k1, k2, kc, k4, l0, hs, hc, l1, hid2, hRl]
end Go.RR.M
set_option linter.unusedVariables false
set_option linter.unusedSimpArgs false
set_option maxRecDepth 100000
set_option maxHeartbeats 4000000
namespace Go.RR.M
open Go Go.RR
theorem inS_const {u w : Int} (huw : u ≤ w) : ∀ {l : List Sp}, (∀ s ∈ l, ¬ (u < s.lo ∧ s.lo ≤ w) ∧ ¬ (u < s.hi + 1 ∧ s.hi + 1 ≤ w)) → inS u l = inS w l
  | [], _ => rfl
  | s :: r, h => by
    have h1 := h s (by simp)
    rw [inS_cons, inS_cons, inS_const huw fun x hx => h x (by simp [hx])]
    congr 1
    rw [Bool.eq_iff_iff]
    simp only [Bool.and_eq_true, decide_eq_true_eq]
    omega
theorem inS_false {v : Int} {l : List Sp} (h : ∀ s ∈ l, v < s.lo ∨ s.hi < v) : inS v l = false := by
  unfold inS
  rw [List.any_eq_false]
  intro s hs
  have := h s hs
  simp; omega
theorem mem_endsS {c : List Sp} {s : Sp} (hs : s ∈ c) : s.lo ∈ endsS c ∧ s.hi + 1 ∈ endsS c := by
  unfold endsS
  exact ⟨List.mem_flatMap.2 ⟨s, hs, by simp⟩, List.mem_flatMap.2 ⟨s, hs, by simp⟩⟩
theorem head_le : ∀ {E : List Int}, E.Pairwise (· < ·) → ∀ x, E.head? = some x → ∀ y ∈ E, x ≤ y
  | [], _, x, e, _, _ => by cases e
  | a :: r, h, x, e, y, hy => by
    simp only [List.head?_cons, Option.some.injEq] at e
    subst e
    rcases List.mem_cons.1 hy with rfl | hy
    · exact Int.le_refl _
    · exact Int.le_of_lt ((List.pairwise_cons.1 h).1 y hy)
theorem last_ge : ∀ {E : List Int}, E.Pairwise (· < ·) → ∀ x, E.getLast? = some x → ∀ y ∈ E, y ≤ x
  | [], _, x, e, _, _ => by cases e
  | [a], h, x, e, y, hy => by
    simp at e hy
    omega
  | a :: b :: r, h, x, e, y, hy => by
    rw [List.getLast?_cons_cons] at e
    have ih := last_ge (List.pairwise_cons.1 h).2 x e
    rcases List.mem_cons.1 hy with rfl | hy
    · have h1 := ih b (by simp)
      have h2 := (List.pairwise_cons.1 h).1 b (by simp)
      omega
    · exact ih y hy
/-- what is put together is a set -/
theorem partS_in {g : Bool → Bool → Bool} (hg : g false false = false) {a b : List Sp} (ha : spR none a = true) (hb : spR none b = true) : spR none (partS g a b) = true ∧ ∀ v, inS v (partS g a b) = g (inS v a) (inS v b) := by
  unfold partS
  rw [if_pos ⟨ha, hb⟩]
  obtain ⟨hp, hm⟩ := comp_sort (endsS (a ++ b))
  obtain ⟨E, hE⟩ : ∃ E, E = Lib.compact (sortI (endsS (a ++ b))) := ⟨_, rfl⟩
  rw [← hE] at hp hm ⊢
  have hbd : ∀ s ∈ a ++ b, s.lo ≤ s.hi ∧ -1048576 ≤ s.lo ∧ s.hi ≤ 1048576 := fun s hs => (List.mem_append.1 hs).elim (spR_all ha s) (spR_all hb s)
  obtain ⟨k1, k2⟩ := segs_right (fun v => g (inS v a) (inS v b)) E [] hp (fun x hx => endsS_bd hbd x ((hm x).1 hx)) rfl (by simp)
  refine ⟨k1, fun v => ?_⟩
  rw [k2, segIn_eq (fun v => g (inS v a) (inS v b)) v E hp]
  · simp [inS]
  · intro u w hu huw hx
    have key : ∀ l : List Sp, (∀ s ∈ l, s ∈ a ++ b) → inS u l = inS w l := fun l hl => inS_const huw fun s hs => by
      have := mem_endsS (hl s hs)
      exact ⟨hx _ ((hm _).2 this.1), hx _ ((hm _).2 this.2)⟩
    show g _ _ = g _ _
    rw [key a (fun s hs => List.mem_append_left _ hs), key b (fun s hs => List.mem_append_right _ hs)]
  · intro x hx hv
    have key : ∀ l : List Sp, (∀ s ∈ l, s ∈ a ++ b) → inS v l = false := fun l hl => inS_false fun s hs => by
      have h1 := head_le hp x hx _ ((hm _).2 (mem_endsS (hl s hs)).1)
      omega
    show g _ _ = false
    rw [key a (fun s hs => List.mem_append_left _ hs), key b (fun s hs => List.mem_append_right _ hs), hg]
  · intro x hx hv
    have key : ∀ l : List Sp, (∀ s ∈ l, s ∈ a ++ b) → inS v l = false := fun l hl => inS_false fun s hs => by
      have h1 := last_ge hp x hx _ ((hm _).2 (mem_endsS (hl s hs)).2)
      omega
    show g _ _ = false
    rw [key a (fun s hs => List.mem_append_left _ hs), key b (fun s hs => List.mem_append_right _ hs), hg]
  · intro e
    have key : ∀ l : List Sp, (∀ s ∈ l, s ∈ a ++ b) → inS v l = false := fun l hl => inS_false fun s hs => by
      have h1 := (hm _).2 (mem_endsS (hl s hs)).1
      rw [e] at h1
      simp at h1
    show g _ _ = false
    rw [key a (fun s hs => List.mem_append_left _ hs), key b (fun s hs => List.mem_append_right _ hs), hg]
theorem segs_len (K : Int → Bool) : ∀ (E : List Int) (acc : List Sp), (segs K E acc).length ≤ acc.length + E.length
  | [], acc => by simp [segs]
  | [x], acc => by simp [segs]
  | low :: nxt :: r, acc => by
    unfold segs
    have ih := segs_len K (nxt :: r) (if K low = true then putS acc ⟨low, nxt - 1⟩ else acc)
    have hp := putS_len acc ⟨low, nxt - 1⟩
    simp only [List.length_cons] at ih ⊢
    split at ih <;> rename_i c
    · rw [if_pos c]; omega
    · rw [if_neg c]; omega
theorem partS_len (g : Bool → Bool → Bool) (a b : List Sp) : (partS g a b).length ≤ 2 * (a.length + b.length) := by
  unfold partS
  split
  · have h1 := segs_len (fun v => g (inS v a) (inS v b)) (Lib.compact (sortI (endsS (a ++ b)))) []
    have h2 := comp_len (endsS (a ++ b))
    have h3 := endsS_len (a ++ b)
    rw [List.length_append] at h3
    simp at h1
    omega
  · simp
theorem count_val {l : List Sp} (h : spR none l = true) (v : Int) : (valS l).count v = if inS v l = true then 1 else 0 := by
  have hs := valS_sorted h
  have hn : (valS l).Nodup := hs.imp fun h => by omega
  rw [hn.count]
  simp only [valS_mem]
theorem size_val {l : List Sp} (h : spR none l = true) : spN l = (valS l).length := by
  rw [spN, if_pos h, valS_len (spR_all h)]
/-- how many there are of both, and of either -/
theorem size_sets {a b : List Sp} (ha : spR none a = true) (hb : spR none b = true) :
    spN (partS (fun x y => x || y) a b) = spN a + spN b - spN (partS (fun x y => x && y) a b) ∧ spN (partS (fun x y => x && !y) a b) = spN a - spN (partS (fun x y => x && y) a b) := by
  obtain ⟨u1, u2⟩ := partS_in (g := fun x y => x || y) rfl ha hb
  obtain ⟨m1, m2⟩ := partS_in (g := fun x y => x && y) rfl ha hb
  obtain ⟨l1, l2⟩ := partS_in (g := fun x y => x && !y) rfl ha hb
  rw [size_val u1, size_val m1, size_val l1, size_val ha, size_val hb]
  have p1 : (valS (partS (fun x y => x || y) a b) ++ valS (partS (fun x y => x && y) a b)).Perm (valS a ++ valS b) := List.perm_iff_count.2 fun v => by
    rw [List.count_append, List.count_append, count_val u1, count_val m1, count_val ha, count_val hb, u2, m2]
    cases inS v a <;> cases inS v b <;> rfl
  have p2 : (valS (partS (fun x y => x && !y) a b) ++ valS (partS (fun x y => x && y) a b)).Perm (valS a) := List.perm_iff_count.2 fun v => by
    rw [List.count_append, count_val l1, count_val m1, count_val ha, l2, m2]
    cases inS v a <;> cases inS v b <;> rfl
  have q1 := p1.length_eq
  have q2 := p2.length_eq
  simp only [List.length_append] at q1 q2
  omega
end Go.RR.M
set_option linter.unusedVariables false
set_option linter.unusedSimpArgs false
set_option maxRecDepth 100000
set_option maxHeartbeats 8000000
namespace Go.RR.M
open Go Go.RR
theorem k_union (x y : Bool) (h : List Ob) : acw C n_spans_Union_1 [.bool x, .bool y] h = some (.ret (.bool (x || y)), h) := by
  refine acw_ex (v := .bool (x || y)) (CT T_spans_Union_1) rfl rfl (fun _ => rfl) (by simp) ?_
  cases x <;> cases y <;> simp [runW_fin, F_spans_Union_1, i_spans_Union_1]
theorem k_meet (x y : Bool) (h : List Ob) : acw C n_spans_Meet_1 [.bool x, .bool y] h = some (.ret (.bool (x && y)), h) := by
  refine acw_ex (v := .bool (x && y)) (CT T_spans_Meet_1) rfl rfl (fun _ => rfl) (by simp) ?_
  cases x <;> cases y <;> simp [runW_fin, F_spans_Meet_1, i_spans_Meet_1]
theorem k_less (x y : Bool) (h : List Ob) : acw C n_spans_Less_1 [.bool x, .bool y] h = some (.ret (.bool (x && !y)), h) := by
  refine acw_ex (v := .bool (x && !y)) (CT T_spans_Less_1) rfl rfl (fun _ => rfl) (by simp) ?_
  cases x <;> cases y <;> simp [runW_fin, F_spans_Less_1, i_spans_Less_1]
theorem union (a b : List Sp) (ha : a.length ≤ 400) (hb : b.length ≤ 400) (h : List Ob) : acw C n_spans_Union [spsV a, spsV b] h = some (.ret (spsV (partS (fun x y => x || y) a b)), h) := by
  refine acw_ex (v := spsV (partS (fun x y => x || y) a b)) (CT T_spans_Union) rfl rfl (fun _ => rfl) (by simp) ?_
  have k := parts a b _ _ k_union ha hb
  obtain ⟨u, hu⟩ : ∃ u, u = partS (fun x y => x || y) a b := ⟨_, rfl⟩
  rw [← hu] at k ⊢
  simp [runW_fin, F_spans_Union, i_spans_Union, k]
theorem meet (a b : List Sp) (ha : a.length ≤ 400) (hb : b.length ≤ 400) (h : List Ob) : acw C n_spans_Meet [spsV a, spsV b] h = some (.ret (spsV (partS (fun x y => x && y) a b)), h) := by
  refine acw_ex (v := spsV (partS (fun x y => x && y) a b)) (CT T_spans_Meet) rfl rfl (fun _ => rfl) (by simp) ?_
  have k := parts a b _ _ k_meet ha hb
  obtain ⟨u, hu⟩ : ∃ u, u = partS (fun x y => x && y) a b := ⟨_, rfl⟩
  rw [← hu] at k ⊢
  simp [runW_fin, F_spans_Meet, i_spans_Meet, k]
theorem less (a b : List Sp) (ha : a.length ≤ 400) (hb : b.length ≤ 400) (h : List Ob) : acw C n_spans_Less [spsV a, spsV b] h = some (.ret (spsV (partS (fun x y => x && !y) a b)), h) := by
  refine acw_ex (v := spsV (partS (fun x y => x && !y) a b)) (CT T_spans_Less) rfl rfl (fun _ => rfl) (by simp) ?_
  have k := parts a b _ _ k_less ha hb
  obtain ⟨u, hu⟩ : ∃ u, u = partS (fun x y => x && !y) a b := ⟨_, rfl⟩
  rw [← hu] at k ⊢
  simp [runW_fin, F_spans_Less, i_spans_Less, k]
theorem sets_loop (a b u m l : List Sp) (ha : a.length ≤ 1000) (hb : b.length ≤ 1000) (hu : u.length ≤ 1000) (hm : m.length ≤ 1000) (hl : l.length ≤ 1000)
    (eu : ∀ v, inS v u = (inS v a || inS v b)) (em : ∀ v, inS v m = (inS v a && inS v b)) (el : ∀ v, inS v l = (inS v a && !inS v b)) (Z : List Int) (hZ : ∀ v ∈ Z, (inS v a || inS v b) = true) (hn : Z.length ≤ 1000000) (v : V) (h : List Ob) (A : AccB 0 h v 1 (Z.map (V.int .i64))) : ∀ (d i : Nat), i + d = Z.length →
    evw C y0 i_law03_SpansSets_l0 [(0, spsV a), (1, spsV b), (5, spsV u), (6, spsV m), (7, spsV l), (73, v), (74, iv Z.length), (75, iv i)] h = some (.ext 0, [(0, spsV a), (1, spsV b), (5, spsV u), (6, spsV m), (7, spsV l), (73, v), (74, iv Z.length), (75, iv Z.length), (76, .bool false)], h)
  | 0, i, e => by
    obtain rfl : i = Z.length := by omega
    rw [r_law03_SpansSets_0]
    simp [b_law03_SpansSets_0]
  | d + 1, i, e => by
    have hlt : i < Z.length := by omega
    have h2 : (i : Int) < Z.length := by omega
    have h3 : Z[i]? = some Z[i] := by simp [hlt]
    have hw := wrap_succ (i := i) (n := Z.length) hlt (by omega)
    have ih := sets_loop a b u m l ha hb hu hm hl eu em el Z hZ hn v h A d (i + 1) (by omega)
    simp only [Int.natCast_add, Int.cast_ofNat_Int] at ih
    have k1 := ref03_In a (by omega) Z[i]
    have k2 := ref03_In b (by omega) Z[i]
    have k3 := ref03_In u (by omega) Z[i]
    have k4 := ref03_In m (by omega) Z[i]
    have k5 := ref03_In l (by omega) Z[i]
    rw [eu] at k3
    rw [em] at k4
    rw [el] at k5
    have hz := hZ Z[i] (List.getElem_mem hlt)
    rcases A with ⟨rfl, e9⟩ | ⟨id, -, rfl, e9⟩
    · have := congrArg List.length e9; rw [List.length_map] at this; simp only [List.length_nil] at this; omega
    · rw [r_law03_SpansSets_0, ← ih]
      cases ca : inS Z[i] a <;> cases cb : inS Z[i] b <;> rw [ca, cb] at hz k3 k4 k5 <;> rw [ca] at k1 <;> rw [cb] at k2
      · cases hz
      · simp [b_law03_SpansSets_0, h2, h3, hw, e9, k1, k2, k3, k4, k5, hlt]
      · simp [b_law03_SpansSets_0, h2, h3, hw, e9, k1, k2, k3, k4, k5, hlt]
      · simp [b_law03_SpansSets_0, h2, h3, hw, e9, k1, k2, k3, k4, k5, hlt]
theorem sets (a b : List Sp) (h : List Ob) : acw C n_law03_SpansSets [spsV a, spsV b] h = some (.ret (.bool true), h) := by
  refine acw_ex (v := .bool true) (CT T_law03_SpansSets) rfl rfl (fun _ => rfl) (by simp) ?_
  have k0 := awake
  by_cases c1 : (60 : Int) < a.length
  · simp [runW_fin, F_law03_SpansSets, i_law03_SpansSets, k0, c1]
  by_cases c2 : (60 : Int) < b.length
  · simp [runW_fin, F_law03_SpansSets, i_law03_SpansSets, k0, c1, c2]
  have ku := union a b (by omega) (by omega)
  have km := meet a b (by omega) (by omega)
  have kl := less a b (by omega) (by omega)
  have r1 := ref03_Right a (by omega)
  have r2 := ref03_Right b (by omega)
  cases ea : spR none a with
  | false =>
    rw [ea] at r1
    have e : ∀ g, partS g a b = [] := fun g => by rw [partS, if_neg (by rw [ea]; simp)]
    rw [e] at ku km kl
    simp [runW_fin, F_law03_SpansSets, i_law03_SpansSets, k0, c1, c2, ku, km, kl, r1, ieq]
  | true =>
    rw [ea] at r1
    cases eb : spR none b with
    | false =>
      rw [eb] at r2
      have e : ∀ g, partS g a b = [] := fun g => by rw [partS, if_neg (by rw [eb]; simp)]
      rw [e] at ku km kl
      simp [runW_fin, F_law03_SpansSets, i_law03_SpansSets, k0, c1, c2, ku, km, kl, r1, r2, ieq]
    | true =>
      rw [eb] at r2
      have f1 := few a (by omega)
      have f2 := few b (by omega)
      obtain ⟨u1, u2⟩ := partS_in (g := fun x y => x || y) rfl ea eb
      obtain ⟨m1, m2⟩ := partS_in (g := fun x y => x && y) rfl ea eb
      obtain ⟨l1, l2⟩ := partS_in (g := fun x y => x && !y) rfl ea eb
      obtain ⟨s1, s2⟩ := size_sets ea eb
      have n1 := partS_len (fun x y => x || y) a b
      have n2 := partS_len (fun x y => x && y) a b
      have n3 := partS_len (fun x y => x && !y) a b
      obtain ⟨u, hu⟩ : ∃ u, u = partS (fun x y => x || y) a b := ⟨_, rfl⟩
      obtain ⟨m, hm⟩ : ∃ u, u = partS (fun x y => x && y) a b := ⟨_, rfl⟩
      obtain ⟨l, hl⟩ : ∃ u, u = partS (fun x y => x && !y) a b := ⟨_, rfl⟩
      rw [← hu] at ku u1 u2 s1 n1
      rw [← hm] at km m1 m2 s1 s2 n2
      rw [← hl] at kl l1 l2 s2 n3
      cases fa : fewB a with
      | false =>
        rw [fa] at f1
        simp [runW_fin, F_law03_SpansSets, i_law03_SpansSets, k0, c1, c2, ku, km, kl, r1, r2, f1]
      | true =>
        rw [fa] at f1
        cases fb : fewB b with
        | false =>
          rw [fb] at f2
          simp [runW_fin, F_law03_SpansSets, i_law03_SpansSets, k0, c1, c2, ku, km, kl, r1, r2, f1, f2]
        | true =>
          rw [fb] at f2
          have w1 := ref03_Right u (by omega)
          have w2 := ref03_Right m (by omega)
          have w3 := ref03_Right l (by omega)
          rw [u1] at w1
          rw [m1] at w2
          rw [l1] at w3
          have z1 := ref03_Size a (by omega)
          have z2 := ref03_Size b (by omega)
          have z3 := ref03_Size u (by omega)
          have z4 := ref03_Size m (by omega)
          have z5 := ref03_Size l (by omega)
          rw [s1] at z3
          rw [s2] at z5
          have t1 := spN_top a
          have t2 := spN_top b
          have t4 := spN_top m
          have y1 : IntKind.i64.wrap (spN a + spN b) = spN a + spN b := wrap64 (by omega) (by omega)
          have y2 : IntKind.i64.wrap (spN a + spN b - spN m) = spN a + spN b - spN m := wrap64 (by omega) (by omega)
          have y3 : IntKind.i64.wrap (spN a - spN m) = spN a - spN m := wrap64 (by omega) (by omega)
          have v1 := ref03_Values a (by omega) ea []
          have v2 := ref03_Values b (by omega) eb [.row 1 ((valS a).map (V.int .i64))]
          have g1 := size_val ea
          have g2 := size_val eb
          obtain ⟨A, hA⟩ : ∃ A, A = valS a := ⟨_, rfl⟩
          obtain ⟨B, hB⟩ : ∃ A, A = valS b := ⟨_, rfl⟩
          have hz : ∀ v ∈ A ++ B, (inS v a || inS v b) = true := fun v hv => by
            rw [Bool.or_eq_true, ← valS_mem, ← valS_mem, ← hA, ← hB]
            exact List.mem_append.1 hv
          rw [← hA] at v1 v2 g1
          rw [← hB] at v2 g2
          simp at v1 v2
          have hacc : AccB 0 [.row 1 (A.map (V.int .i64)), .row 1 (B.map (V.int .i64))] (.own 0 0 A.length A.length) 1 (A.map (V.int .i64)) := .own (Nat.le_refl _) (by simp) rfl
          have fa' : spN a ≤ 400 := by unfold fewB at fa; simp at fa; exact fa.2
          have fb' : spN b ≤ 400 := by unfold fewB at fb; simp at fb; exact fb.2
          obtain ⟨v', w, e1, e2, -⟩ := hacc.app (b := 8) (y := .own 1 0 B.length B.length) (ys := B.map (V.int .i64)) (Nat.zero_le _) (by
            have hz : (B.map (V.int .i64)).length = B.length := by simp
            simp only [src, RR.elems, rowOf, List.getElem?_cons_succ, List.getElem?_cons_zero, hz, if_true, List.drop_zero]
            rw [List.take_of_length_le (by simp)]) (by simp only [List.length_map]; omega) (by simp only [List.length_map]; omega)
          rw [← List.map_append] at e2
          have lp := sets_loop a b u m l (by omega) (by omega) (by omega) (by omega) (by omega) u2 m2 l2 (A ++ B) hz (by rw [List.length_append]; omega) v' _ e2 (A ++ B).length 0 (by omega)
          have hlen : lenV (wr [.row 1 (A.map (V.int .i64)), .row 1 (B.map (V.int .i64))] w) v' = some (iv (A ++ B).length, none) := by
            rcases e2 with ⟨rfl, e9⟩ | ⟨id, -, rfl, e9⟩
            · have := congrArg List.length e9
              rw [List.length_map] at this
              simp only [List.length_nil] at this
              simp [this]
            · simp only [v_len3, rowOf, e9, if_true, List.length_map]
              rfl
          simp only [List.length_append, Int.natCast_add, Int.cast_ofNat_Int] at lp hlen
          have e1' : appV 2 [.row 1 (A.map (V.int .i64)), .row 1 (B.map (V.int .i64))] 1 8 (.own 0 0 A.length A.length) (.own 1 0 B.length B.length) = some (v', w) := e1
          simp [runW_fin, F_law03_SpansSets, i_law03_SpansSets, k0, c1, c2, ku, km, kl, r1, r2, f1, f2, w1, w2, w3, z1, z2, z3, z4, z5, y1, y2, y3, v1, v2, e1', hlen, lp, ieq]
end Go.RR.M
